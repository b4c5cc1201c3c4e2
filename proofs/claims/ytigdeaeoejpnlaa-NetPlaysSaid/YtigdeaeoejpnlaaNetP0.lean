/- The law NetPlays: its walk, one arm of the switch. -/
import Derived.Test.YtigdeaeoejpnlaaNetN0
namespace Go.Proofs.Ytigdeaeoejpnlaa
open Go.RowKit

set_option maxHeartbeats 8000000 in
set_option maxRecDepth 100000 in
theorem arm01_walk {y65 y75 y76 y77 : Value}
    {w : World}
    {ds : List Deed}
    {cap : Nat}
    {g : Nat}
    {u2 u9 u10 u11 u12 u13 u14 u15 u16 u17 u18 u19 u108 u152 u191 :
  Value}
    {i gn : Nat}
    {xs : List Packet}
    (hids : i ≤ ds.length)
    (hxl : xs.length ≤ i)
    {F S : Nat → Prop}
    {wo : World}
    (hbw : Below w.heap.size w wo)
    {lA : Option Addr}
    {lc : Nat}
    (hlc : xs.length ≤ lc)
    (hlm : lc ≤ 9223372036854775807)
    (hlt1 : i < ds.length)
    (hlt2 : i < 100)
    {b o : Nat}
    {d1 d2 a1 a2 a3 : Int}
    {a4 : Bool}
    {A1 : Option Addr}
    {n1 cap1 : Nat}
    (hrep :
  PacketS.rep (fun x => x < w.heap.size) wo ds[i].snd.snd
    [Value.int IntKind.i64 a1, Value.int IntKind.i64 a2, Value.int IntKind.u64 a3, Value.bool a4,
      Value.slice A1 n1 cap1])
    (hr2 : -9223372036854775808 ≤ d2 ∧ d2 ≤ 9223372036854775807)
    (h2000 : ¬2000 < n1)
    (Hd1 : Hid (d1 = ds[i].fst))
    (Hd2 : Hid (d2 = ds[i].snd.fst))
    (Hn1 : Hid (n1 = ds[i].snd.snd.snd.snd.snd.snd.length))
    {Qp_0 : Exit → Act → World → Prop }
    {K_2 : Act → World → Prop}
    {u25 u26 u27 u28 u29 u30 u31 u32 u33 u34 u35 u36 u37 u38 u39 u40 u41 u42 u43 u44 u45 u46 u47 u48 u49 u50 u51 u52 u53 u54 u55 u56 u57 u58 u59 u60 u61 u62 u66 u67 u68 u69 u70 u71 u72 u73 u74 u78 u79 u80 u81 u82 u83 u84 u85 u86 u87 u88 u89 u90 u91 u92 u93 u94 u95 u96 u97 u98 u99 u100 u101 u102 u103 u104 u105 u106 u107 u109 u110 u111 u112 u113 u114 u115 u116 u117 u118 u119 u120 u121 u122 u123 u124 u125 u126 u127 u128 u129 u130 u131 u132 u133 u134 u135 u136 u137 u138 u139 u140 u141 u142 u143 u144 u145 u146 u147 u148 u149 u150 u151 u153 u154 u155 u156 u157 u158 u159 u160 u161 u162 u163 u164 u165 u166 u167 u168 u169 u170 u171 u172 u173 u174 u175 u176 u177 u178 u179 u180 u181 u182 u183 u184 u185 u186 u187 u188 u189 u190 u192 u193 u194 u195 u196 u197 u198 u199 u200 u201 u202 u203 u204 u205 u206 u207 u208 u209 u210 u211 u212 u213 u214 u215 u216 u217 u218 u219 u220 u221 u222 :
  Value}
    {has : Bool}
    (Hhas : Hid (has = decide (0 ≤ d2 ∧ d2 < (↑xs.length : Int))))
    {J_0 Kp_0 : Act → World → Prop}
    (a_2 : Hid (
  ∀ (a' : Act) (w' : World),
    (∃ u2 u4 u5 u9 u10 u11 u12 u13 u14 u15 u16 u17 u18 u19 u25 u26 u27 u28 u29 u30 u31 u32 u33 u34 u35 u36 u37 u38 u39
        u40 u41 u42 u43 u44 u45 u46 u47 u48 u49 u50 u51 u52 u53 u54 u55 u56 u57 u58 u59 u60 u61 u62 u63 u64 u65 u66 u67
        u68 u69 u70 u71 u72 u73 u74 u75 u76 u77 u78 u79 u80 u81 u82 u83 u84 u85 u86 u87 u88 u89 u90 u91 u92 u93 u94 u95
        u96 u97 u98 u99 u100 u101 u102 u103 u104 u105 u106 u107 u108 u109 u110 u111 u112 u113 u114 u115 u116 u117 u118
        u119 u120 u121 u122 u123 u124 u125 u126 u127 u128 u129 u130 u131 u132 u133 u134 u135 u136 u137 u138 u139 u140
        u141 u142 u143 u144 u145 u146 u147 u148 u149 u150 u151 u152 u153 u154 u155 u156 u157 u158 u159 u160 u161 u162
        u163 u164 u165 u166 u167 u168 u169 u170 u171 u172 u173 u174 u175 u176 u177 u178 u179 u180 u181 u182 u183 u184
        u185 u186 u187 u188 u189 u190 u191 u192 u193 u194 u195 u196 u197 u198 u199 u200 u201 u202 u203 u204 u205 u206
        u207 u208 u209 u210 u211 u212 u213 u214 u215 u216 u217 u218 u219 u220 u221 u222,
        (∃ g' xs', u4 = Value.pointer (some { block := g', off := 0 }) ∧ xs'.length ≤ i + 1 ∧ Beside w g' u5 xs' w') ∧
          a' =
            {
              tmps :=
                (Value.slice (some { block := b, off := o }) ds.length cap :: undef :: u2 :: Value.bool true :: u4 :: u5 :: Value.int IntKind.i64 (↑i : Int) :: Value.pointer (some { block := wo.heap.size, off := 0 }) :: Value.bool has :: u9 :: u10 :: u11 :: u12 :: u13 :: u14 :: u15 :: u16 :: u17 :: u18 :: u19 :: undef :: undef :: undef :: Value.bool true :: Value.pointer (some { block := g, off := 0 }) :: u25 :: u26 :: u27 :: u28 :: u29 :: u30 :: u31 :: u32 :: u33 :: u34 :: u35 :: u36 :: u37 :: u38 :: u39 :: u40 :: u41 :: u42 :: u43 :: u44 :: u45 :: u46 :: u47 :: u48 :: u49 :: u50 :: u51 :: u52 :: u53 :: u54 :: u55 :: u56 :: u57 :: u58 :: u59 :: u60 :: u61 :: u62 :: u63 :: u64 :: u65 :: u66 :: u67 :: u68 :: u69 :: u70 :: u71 :: u72 :: u73 :: u74 :: u75 :: u76 :: u77 :: u78 :: u79 :: u80 :: u81 :: u82 :: u83 :: u84 :: u85 :: u86 :: u87 :: u88 :: u89 :: u90 :: u91 :: u92 :: u93 :: u94 :: u95 :: u96 :: u97 :: u98 :: u99 :: u100 :: u101 :: u102 :: u103 :: u104 :: u105 :: u106 :: u107 :: u108 :: u109 :: u110 :: u111 :: u112 :: u113 :: u114 :: u115 :: u116 :: u117 :: u118 :: u119 :: u120 :: u121 :: u122 :: u123 :: u124 :: u125 :: u126 :: u127 :: u128 :: u129 :: u130 :: u131 :: u132 :: u133 :: u134 :: u135 :: u136 :: u137 :: u138 :: u139 :: u140 :: u141 :: u142 :: u143 :: u144 :: u145 :: u146 :: u147 :: u148 :: u149 :: u150 :: u151 :: u152 :: u153 :: u154 :: u155 :: u156 :: u157 :: u158 :: u159 :: u160 :: u161 :: u162 :: u163 :: u164 :: u165 :: u166 :: u167 :: u168 :: u169 :: u170 :: u171 :: u172 :: u173 :: u174 :: u175 :: u176 :: u177 :: u178 :: u179 :: u180 :: u181 :: u182 :: u183 :: u184 :: u185 :: u186 :: u187 :: u188 :: u189 :: u190 :: u191 :: u192 :: u193 :: u194 :: u195 :: u196 :: u197 :: u198 :: u199 :: u200 :: u201 :: u202 :: u203 :: u204 :: u205 :: u206 :: u207 :: u208 :: u209 :: u210 :: u211 :: u212 :: u213 :: u214 :: u215 :: u216 :: u217 :: u218 :: u219 :: u220 :: u221 :: u222 :: undef :: undef :: undef :: undef :: undef :: undef :: undef :: undef :: undef :: undef :: undef :: undef :: undef :: undef :: undef :: undef :: undef :: undef :: undef :: undef :: undef :: undef :: undef :: undef :: undef :: undef :: undef :: undef :: ([] : List Value)).toArray,
              defers := [] }) →
      J_0 a' w'))
    (a_1 : ∀ (a' : Act) (w' : World), Met J_0 a' w' → Kp_0 a' w')
    {W1 : World}
    (hrow :
  Row W1 wo.heap.size 40
    [Value.int IntKind.i64 d1, Value.int IntKind.i64 d2, Value.int IntKind.i64 a1, Value.int IntKind.i64 a2,
      Value.int IntKind.u64 a3, Value.bool a4, Value.slice A1 n1 cap1])
    (hB1 : Bes w F S gn (Value.slice lA xs.length lc) xs W1)
    (hrep1 :
  PacketS.rep (fun x => x < w.heap.size) W1 ds[i].snd.snd
    [Value.int IntKind.i64 a1, Value.int IntKind.i64 a2, Value.int IntKind.u64 a3, Value.bool a4,
      Value.slice A1 n1 cap1])
    (hdF :
  (¬F wo.heap.size ∧ ¬S wo.heap.size) ∧
    (Value.slice lA xs.length lc).ownBlock ≠ some wo.heap.size ∧ w.heap.size ≤ wo.heap.size)
    (hdl : wo.heap.size < W1.heap.size)
    (Hlen : xs.length ≤ 100)
    (y0 : W1.cell? { block := wo.heap.size, off := 0 } = some (Value.int IntKind.i64 d1))
    (y1 : W1.cell? { block := wo.heap.size, off := 1 } = some (Value.int IntKind.i64 d2))
    (y2 : W1.cell? { block := wo.heap.size, off := 2 } = some (Value.int IntKind.i64 a1))
    (y3 : W1.cell? { block := wo.heap.size, off := 3 } = some (Value.int IntKind.i64 a2))
    (y4 : W1.cell? { block := wo.heap.size, off := 4 } = some (Value.int IntKind.u64 a3))
    (y5 : W1.cell? { block := wo.heap.size, off := 5 } = some (Value.bool a4))
    (y6 : W1.cell? { block := wo.heap.size, off := 6 } = some (Value.slice A1 n1 cap1))
    {K_0 : Act → World → Prop}
    (a_0 :
  ∀ (a : Act) (w : World),
    Code.wp Try.prog
        ((Code.region 19
              #[{ dst := some 80, op := Op.buildSlice 28 0 #[], type := 28, pos := "law.go:60", after := #[],
                  guard := none },
                { dst := some 81, op := Op.fieldAddr 40 (Operand.tmp 7) 2, type := 0, pos := "law.go:60", after := #[],
                  guard := none },
                { dst := some 82, op := Op.fieldAddr 30 (Operand.tmp 81) 4, type := 0, pos := "law.go:60",
                  after := #[{ on := 1, ground := Ground.data }], guard := none },
                { dst := some 83, op := Op.load 28 (Operand.tmp 82), type := 28, pos := "law.go:60",
                  after := #[{ on := 2, ground := Ground.data }], guard := none },
                { dst := some 84,
                  op :=
                    Op.call
                      { callee := Callee.builtin Builtin.append, args := #[Operand.tmp 80, Operand.tmp 83],
                        argTypes := #[28, 28] },
                  type := 28, pos := "law.go:60",
                  after := #[{ on := 0, ground := Ground.data }, { on := 3, ground := Ground.data }], guard := none },
                { dst := some 85, op := Op.fieldAddr 30 (Operand.tmp 9) 4, type := 0, pos := "law.go:60",
                  after :=
                    #[{ on := 0, ground := Ground.phase }, { on := 1, ground := Ground.phase },
                      { on := 2, ground := Ground.phase }, { on := 3, ground := Ground.phase },
                      { on := 4, ground := Ground.phase }],
                  guard := none },
                { dst := none, op := Op.store 28 (Operand.tmp 85) (Operand.tmp 84), type := 0, pos := "law.go:60",
                  after :=
                    #[{ on := 5, ground := Ground.data }, { on := 4, ground := Ground.data },
                      { on := 4, ground := Ground.chain }, { on := 0, ground := Ground.phase },
                      { on := 1, ground := Ground.phase }, { on := 2, ground := Ground.phase },
                      { on := 3, ground := Ground.phase }, { on := 4, ground := Ground.phase }],
                  guard := none }]
              false).seq
          ((Code.region 20
                #[{ dst := some 86, op := Op.move (Operand.tmp 4), type := 24, pos := "law.go:61", after := #[],
                    guard := none },
                  { dst := some 87, op := Op.load 30 (Operand.tmp 9), type := 30, pos := "law.go:61", after := #[],
                    guard := none },
                  { dst := some 88, op := Op.buildSlice 26 1 #[(0, Operand.tmp 87)], type := 26, pos := "law.go:61",
                    after := #[{ on := 1, ground := Ground.data }], guard := none },
                  { dst := some 89,
                    op :=
                      Op.call
                        { callee := Callee.value (Operand.func 14), args := #[Operand.tmp 86, Operand.tmp 88],
                          argTypes := #[24, 26] },
                    type := 3, pos := "law.go:61",
                    after := #[{ on := 0, ground := Ground.data }, { on := 2, ground := Ground.data }], guard := none },
                  { dst := some 10, op := Op.assign (Operand.tmp 89), type := 3, pos := "law.go:61",
                    after :=
                      #[{ on := 3, ground := Ground.data }, { on := 3, ground := Ground.chain },
                        { on := 0, ground := Ground.phase }, { on := 1, ground := Ground.phase },
                        { on := 2, ground := Ground.phase }, { on := 3, ground := Ground.phase }],
                    guard := none }]
                false).seq
            (((Code.region 21
                      #[{ dst := some 11, op := Op.assign (Operand.const (Value.int IntKind.i64 0)), type := 3,
                          pos := "law.go:62", after := #[], guard := none }]
                      false).seq
                  (Code.block 3
                    (((Code.region 22
                                #[{ dst := some 90, op := Op.move (Operand.tmp 11), type := 3, pos := "law.go:62",
                                    after := #[], guard := none },
                                  { dst := some 91, op := Op.fieldAddr 30 (Operand.tmp 9) 4, type := 0,
                                    pos := "law.go:62", after := #[], guard := none },
                                  { dst := some 92, op := Op.load 28 (Operand.tmp 91), type := 28, pos := "law.go:62",
                                    after := #[{ on := 1, ground := Ground.data }], guard := none },
                                  { dst := some 93,
                                    op :=
                                      Op.call
                                        { callee := Callee.builtin Builtin.len, args := #[Operand.tmp 92],
                                          argTypes := #[28] },
                                    type := 3, pos := "law.go:62", after := #[{ on := 2, ground := Ground.data }],
                                    guard := none },
                                  { dst := some 94, op := Op.binOp BinOp.lss 3 (Operand.tmp 90) (Operand.tmp 93) 3,
                                    type := 4, pos := "law.go:62",
                                    after := #[{ on := 0, ground := Ground.data }, { on := 3, ground := Ground.data }],
                                    guard := none }]
                                false).seq
                            (Code.cond (Operand.tmp 94) Code.skip (Code.exit 3))).seq
                        ((Code.block 4
                              (Code.region 24
                                #[{ dst := some 97, op := Op.fieldAddr 30 (Operand.tmp 9) 4, type := 0,
                                    pos := "law.go:63", after := #[], guard := none },
                                  { dst := some 98, op := Op.load 28 (Operand.tmp 97), type := 28, pos := "law.go:63",
                                    after := #[{ on := 0, ground := Ground.data }], guard := none },
                                  { dst := some 99, op := Op.move (Operand.tmp 11), type := 3, pos := "law.go:63",
                                    after := #[], guard := none },
                                  { dst := some 100, op := Op.indexAddr 28 (Operand.tmp 98) (Operand.tmp 99), type := 0,
                                    pos := "law.go:63",
                                    after :=
                                      #[{ on := 1, ground := Ground.data }, { on := 2, ground := Ground.data },
                                        { on := 0, ground := Ground.phase }, { on := 1, ground := Ground.phase },
                                        { on := 2, ground := Ground.phase }],
                                    guard := none },
                                  { dst := none,
                                    op := Op.store 5 (Operand.tmp 100) (Operand.const (Value.int IntKind.u8 0)),
                                    type := 0, pos := "law.go:63",
                                    after :=
                                      #[{ on := 3, ground := Ground.data }, { on := 0, ground := Ground.phase },
                                        { on := 1, ground := Ground.phase }, { on := 2, ground := Ground.phase }],
                                    guard := none }]
                                false)).seq
                          (Code.region 23
                            #[{ dst := some 95, op := Op.move (Operand.tmp 11), type := 3, pos := "law.go:62",
                                after := #[], guard := none },
                              { dst := some 96,
                                op := Op.binOp BinOp.add 3 (Operand.tmp 95) (Operand.const (Value.int IntKind.i64 1)) 3,
                                type := 3, pos := "law.go:62", after := #[{ on := 0, ground := Ground.data }],
                                guard := none },
                              { dst := some 11, op := Op.assign (Operand.tmp 96), type := 3, pos := "law.go:62",
                                after :=
                                  #[{ on := 1, ground := Ground.data }, { on := 0, ground := Ground.phase },
                                    { on := 1, ground := Ground.phase }],
                                guard := none }]
                            false))).loop)).seq
              (((Code.region 25
                        #[{ dst := some 101, op := Op.move (Operand.tmp 10), type := 3, pos := "law.go:65",
                            after := #[], guard := none },
                          { dst := some 102,
                            op := Op.binOp BinOp.neq 3 (Operand.tmp 101) (Operand.const (Value.int IntKind.i64 0)) 3,
                            type := 4, pos := "law.go:65", after := #[{ on := 0, ground := Ground.data }],
                            guard := none }]
                        false).seq
                    (Code.cond (Operand.tmp 102)
                      ((Code.region 26
                            #[{ dst := some 2, op := Op.assign (Operand.const (Value.bool false)), type := 4,
                                pos := "law.go:66", after := #[], guard := none }]
                            false).seq
                        Code.ret)
                      Code.skip)).seq
                (Code.region 27
                  #[{ dst := some 103, op := Op.move (Operand.tmp 5), type := 26, pos := "law.go:68", after := #[],
                      guard := none },
                    { dst := some 104, op := Op.fieldAddr 40 (Operand.tmp 7) 2, type := 0, pos := "law.go:68",
                      after := #[], guard := none },
                    { dst := some 105, op := Op.load 30 (Operand.tmp 104), type := 30, pos := "law.go:68",
                      after := #[{ on := 1, ground := Ground.data }], guard := none },
                    { dst := some 106, op := Op.buildSlice 26 1 #[(0, Operand.tmp 105)], type := 26, pos := "law.go:68",
                      after := #[{ on := 2, ground := Ground.data }], guard := none },
                    { dst := some 107,
                      op :=
                        Op.call
                          { callee := Callee.builtin Builtin.append, args := #[Operand.tmp 103, Operand.tmp 106],
                            argTypes := #[26, 26] },
                      type := 26, pos := "law.go:68",
                      after := #[{ on := 0, ground := Ground.data }, { on := 3, ground := Ground.data }],
                      guard := none },
                    { dst := some 5, op := Op.assign (Operand.tmp 107), type := 26, pos := "law.go:68",
                      after :=
                        #[{ on := 4, ground := Ground.data }, { on := 4, ground := Ground.chain },
                          { on := 0, ground := Ground.phase }, { on := 1, ground := Ground.phase },
                          { on := 2, ground := Ground.phase }, { on := 3, ground := Ground.phase },
                          { on := 4, ground := Ground.phase }],
                      guard := none }]
                  false)))))
        (Exit.inBlock 2 (Exit.then Kp_0 (Exit.inBlock 1 (Exit.then K_2 Qp_0)))) a w →
      K_0 a w) :
    Code.wp Try.prog
    (Code.region 18
      #[{ dst := some 78, op := Op.fieldAddr 40 (Operand.tmp 7) 2, type := 0, pos := "law.go:59", after := #[],
          guard := none },
        { dst := some 79, op := Op.load 30 (Operand.tmp 78), type := 30, pos := "law.go:59",
          after := #[{ on := 0, ground := Ground.data }], guard := none },
        { dst := some 9, op := Op.alloc 30, type := 0, pos := "law.go:59", after := #[], guard := none },
        { dst := none, op := Op.store 30 (Operand.tmp 9) (Operand.tmp 79), type := 0, pos := "law.go:59",
          after :=
            #[{ on := 2, ground := Ground.data }, { on := 1, ground := Ground.data },
              { on := 0, ground := Ground.phase }, { on := 1, ground := Ground.phase },
              { on := 2, ground := Ground.phase }],
          guard := none }]
      false)
    (Exit.then K_0 (Exit.inBlock 2 (Exit.then Kp_0 (Exit.inBlock 1 (Exit.then K_2 Qp_0)))))
    {
      tmps :=
        (Value.slice (some { block := b, off := o }) ds.length cap :: undef :: u2 :: Value.bool true :: Value.pointer (some { block := gn, off := 0 }) :: Value.slice lA xs.length lc :: Value.int IntKind.i64 (↑i : Int) :: Value.pointer (some { block := wo.heap.size, off := 0 }) :: Value.bool has :: u9 :: u10 :: u11 :: u12 :: u13 :: u14 :: u15 :: u16 :: u17 :: u18 :: u19 :: undef :: undef :: undef :: Value.bool true :: Value.pointer (some { block := g, off := 0 }) :: u25 :: u26 :: u27 :: u28 :: u29 :: u30 :: u31 :: u32 :: u33 :: u34 :: u35 :: u36 :: u37 :: u38 :: u39 :: u40 :: u41 :: u42 :: u43 :: u44 :: u45 :: u46 :: u47 :: u48 :: u49 :: u50 :: u51 :: u52 :: u53 :: u54 :: u55 :: u56 :: u57 :: u58 :: u59 :: u60 :: u61 :: u62 :: Value.pointer (some { block := wo.heap.size, off := 0 }) :: Value.int IntKind.i64 d1 :: y65 :: u66 :: u67 :: u68 :: u69 :: u70 :: u71 :: u72 :: u73 :: u74 :: y75 :: y76 :: y77 :: u78 :: u79 :: u80 :: u81 :: u82 :: u83 :: u84 :: u85 :: u86 :: u87 :: u88 :: u89 :: u90 :: u91 :: u92 :: u93 :: u94 :: u95 :: u96 :: u97 :: u98 :: u99 :: u100 :: u101 :: u102 :: u103 :: u104 :: u105 :: u106 :: u107 :: u108 :: u109 :: u110 :: u111 :: u112 :: u113 :: u114 :: u115 :: u116 :: u117 :: u118 :: u119 :: u120 :: u121 :: u122 :: u123 :: u124 :: u125 :: u126 :: u127 :: u128 :: u129 :: u130 :: u131 :: u132 :: u133 :: u134 :: u135 :: u136 :: u137 :: u138 :: u139 :: u140 :: u141 :: u142 :: u143 :: u144 :: u145 :: u146 :: u147 :: u148 :: u149 :: u150 :: u151 :: u152 :: u153 :: u154 :: u155 :: u156 :: u157 :: u158 :: u159 :: u160 :: u161 :: u162 :: u163 :: u164 :: u165 :: u166 :: u167 :: u168 :: u169 :: u170 :: u171 :: u172 :: u173 :: u174 :: u175 :: u176 :: u177 :: u178 :: u179 :: u180 :: u181 :: u182 :: u183 :: u184 :: u185 :: u186 :: u187 :: u188 :: u189 :: u190 :: u191 :: u192 :: u193 :: u194 :: u195 :: u196 :: u197 :: u198 :: u199 :: u200 :: u201 :: u202 :: u203 :: u204 :: u205 :: u206 :: u207 :: u208 :: u209 :: u210 :: u211 :: u212 :: u213 :: u214 :: u215 :: u216 :: u217 :: u218 :: u219 :: u220 :: u221 :: u222 :: undef :: undef :: undef :: undef :: undef :: undef :: undef :: undef :: undef :: undef :: undef :: undef :: undef :: undef :: undef :: undef :: undef :: undef :: undef :: undef :: undef :: undef :: undef :: undef :: undef :: undef :: undef :: undef :: ([] : List Value)).toArray,
      defers := [] }
    W1 := by
  · go_upto_region 19 with (fail)
    have hb2 := below_alloc (Below.refl W1.heap.size W1) (.cells #[.int .i64 a1, .int .i64 a2, .int .u64 a3, .bool a4, .slice A1 n1 cap1] 30)
    have hr2 := Row.new W1 30 #[.int .i64 a1, .int .i64 a2, .int .u64 a3, .bool a4, .slice A1 n1 cap1]
    have hbody2 := BytesS.below (packet_body hrep1) hb2
    have hs2 := hr2.lt
    have hrow2 := hrow.alloc (.cells #[.int .i64 a1, .int .i64 a2, .int .u64 a3, .bool a4, .slice A1 n1 cap1] 30)
    have hB2 := hB1.below hb2
    obtain ⟨W2, hW2⟩ : ∃ W2, W2 = W1.alloc (.cells #[.int .i64 a1, .int .i64 a2, .int .u64 a3, .bool a4, .slice A1 n1 cap1] 30) := ⟨_, rfl⟩
    rw [← hW2] at hb2 hr2 hbody2 hs2 hrow2 hB2 ⊢
    have hd2 : wo.heap.size < W2.heap.size := Nat.lt_of_lt_of_le hdl hb2.size
    have z6 := hrow2.cell 6 (by simp)
    simp only [List.getElem_cons_zero, List.getElem_cons_succ] at z6
    have HB1 := hB1
    clear hW2 hB1 hrow y0 y1 y2 y3 y4 y5 y6
    go_wp2_with (at_builtin; refine wpList_copy rfl _ _ 28 5 rfl Try.underlying28 Try.info5 W2 rfl _ _ rfl rfl hbody2 ?_)
    intro v4 w4 hx4 hb4
    obtain ⟨A4, c4, rfl, hc4, hm4⟩ : ∃ A c, v4 = .slice A n1 c ∧ n1 ≤ c ∧ c ≤ 9223372036854775807 := by rw [Hn1.out]; exact sl_open hx4
    have hs4 := hb4.size
    have hr4 := hr2.below hs2 hb4
    have hB4 := hB2.below hb4
    have hrow4 := hrow2.below (Nat.lt_of_lt_of_le hdl hb2.size) hb4
    have x4 := hr4.cell 4 (by simp)
    have f4 := hr4.frozen 4
    simp only [List.getElem_cons_zero, List.getElem_cons_succ] at x4
    clear z6 hbody2 hB2 hr2 hrow2
    go_upto_region 20 with (fail)
    have hr5 := hr4.set 4 (.slice A4 n1 c4)
    have hrow5 := hrow4.other (a := ⟨W1.heap.size, 4, none⟩) (by simp; omega) (.slice A4 n1 c4)
    have hx5 := BytesS.mono hx4 (fun _ h => h) ((Same.refl (Fresh W2 w4) w4).setCell (a := ⟨W1.heap.size, 4, none⟩) (fun b hb => by have := hb.1; simp; omega) (.slice A4 n1 c4))
    have ht5 := (Turned.refl (fun b => b = W1.heap.size) w4).set (a := ⟨W1.heap.size, 4, none⟩) rfl (.slice A4 n1 c4)
    have hB5 := hB4.two.turned ht5 (fun b hb => by
      subst hb
      have hl1 := HB1.low.size
      exact ⟨hl1, fun hf => by have := (HB1.net.lt _ hf).2; omega, fun hf => by have := (HB1.net.bod _ hf).1; omega, fun hf => by have := (HB1.own.blk _ hf).2; omega⟩)
    simp only [List.set_cons_succ, List.set_cons_zero] at hr5
    obtain ⟨W5, hW5⟩ : ∃ W5, W5 = w4.setCell ⟨W1.heap.size, 4, none⟩ (.slice A4 n1 c4) := ⟨_, rfl⟩
    have hs5 : W5.heap.size = w4.heap.size := by rw [hW5]; simp
    rw [← hW5] at hr5 hrow5 hx5 hB5 ht5 ⊢
    obtain ⟨u0, u1, u2, u3, u4, _⟩ := row5 hr5
    have hS1 : Same (· < w.heap.size) wo W5 := fun b hb => (hB5.low.block b hb).trans (hbw.block b hb).symm
    have hrep5 := PacketS.mono hrep (fun _ h => h) hS1
    have hown5 : PacketS.rep (Fresh W2 w4) W5 ds[i].2.2 [.int .i64 a1, .int .i64 a2, .int .u64 a3, .bool a4, .slice A4 n1 c4] := packet_with hrep5 hx5
    have hlt5 : W1.heap.size < W5.heap.size := by omega
    clear hW5 hB4 hr4 hrow4 hx4 x4 f4
    have hzr := packet_slice hown5 30
    have hb6 := below_alloc (Below.refl W5.heap.size W5) (.cells #[.int .i64 a1, .int .i64 a2, .int .u64 a3, .bool a4, .slice A4 n1 c4] 30)
    have hB6 := hB5.below hb6
    have hr6 := hr5.below hlt5 hb6
    have hx6 := BytesS.below hx5 hb6
    have hrow6 := hrow5.below (by omega) hb6
    have hs6 := hb6.size
    have hs5' : w4.heap.size ≤ W5.heap.size := by omega
    clear hs5
    go_wp2_with fail
    refine (send_calls hB6.net hzr (fun b hb hf => by
      have hlt := (hB5.net.lt b hf).2
      have hlt1 := (HB1.net.lt b hf).2
      rcases hb with hb | hb
      · omega
      · have := hb.1; omega)).mono ?_
    rintro e w7 ⟨rfl, F7, S7, hN7, hF7, hS7, ht7⟩
    have hz7 : (([ds[i].2.2].length - (4096 - xs.length) : Nat) : Int) = 0 := by
      have : [ds[i].2.2].length - (4096 - xs.length) = 0 := by simp; omega
      rw [this]; rfl
    have hk7 : xs ++ List.take (4096 - xs.length) [ds[i].2.2] = xs ++ [ds[i].2.2] := by
      rw [List.take_of_length_le (by simp; omega)]
    rw [hk7] at hN7
    rw [hz7]
    have hB7 := hB6.send hN7 hF7 hS7 ht7
    have hs7 := ht7.size
    have hnF : ∀ b, (b = wo.heap.size ∨ b = W1.heap.size ∨ Fresh W2 w4 b) → ¬ F b ∧ ¬ S b := fun b hb => by
      rcases hb with rfl | rfl | hb
      · exact hdF.1
      · exact ⟨fun hf => by have := (HB1.net.lt _ hf).2; omega, fun hf => by have := (HB1.net.bod _ hf).1; omega⟩
      · have h1 := hb.1
        exact ⟨fun hf => by have := (HB1.net.lt _ hf).2; omega, fun hf => by have := (HB1.net.bod _ hf).1; omega⟩
    have hr7 : Row w7 W1.heap.size _ _ := (ht7.block _ (by omega) (hnF _ (.inr (.inl rfl))).1).trans hr6
    have hrow7 : Row w7 wo.heap.size _ _ := (ht7.block _ (by omega) (hnF _ (.inl rfl)).1).trans hrow6
    have hx7 : BytesS.rep (Fresh W2 w4) w7 ds[i].2.2.2.2.2.2 [.slice A4 n1 c4] := BytesS.mono hx6 (fun _ h => h) (fun b hb => ht7.block b (by have := hb.2; omega) (hnF b (.inr (.inr hb))).1)
    have hnF7 : ∀ b, Fresh W2 w4 b → w.heap.size ≤ b ∧ ¬ F7 b ∧ ¬ S7 b ∧ (Value.slice lA xs.length lc).ownBlock ≠ some b := fun b hb => by
      have h1 := hb.1
      have h2 := hb.2
      have h3 := hbw.size
      exact ⟨by omega, fun hf => (hF7 b hf).elim (hnF b (.inr (.inr hb))).1 (fun h => by have := h.1; omega), fun hf => (hS7 b hf).elim (hnF b (.inr (.inr hb))).2 (fun h => by have := h.1; omega), fun hf => by have := (HB1.own.blk _ hf).2; omega⟩
    have hW17 : W1.heap.size < w7.heap.size := by omega
    have hnf17 : ¬ Fresh W2 w4 W1.heap.size := fun h => by have := h.1; omega
    have hwo7 : wo.heap.size < w7.heap.size := by omega
    have hnfwo : ¬ Fresh W2 w4 wo.heap.size := fun h => by have := h.1; omega
    clear hz7 hk7 hzr hb6 hB6 hr6 hx6 hrow6 hB5 hr5 hrow5 hx5 ht5 hrep5 hown5 hN7 hF7 hS7 ht7 hnF u0 u1 u2 u3 u4 hlt5
    go_upto_region 22 with (fail)
    go_loopw [11] (fun iv wr => ∃ (k : Nat) (es : List Nat), iv = .int .i64 (k : Int) ∧ k ≤ n1 ∧ es.length = n1 ∧ BytesS.rep (Fresh W2 w4) wr es [.slice A4 n1 c4] ∧ Turned (Fresh W2 w4) w7 wr) (fun iv _ => n1 - (intOf iv).toNat)
    case atStart => exact ⟨0, _, rfl, by omega, (Hn1.out).symm, hx7, Turned.refl _ _⟩
    case round =>
      obtain ⟨k, es, rfl, hk, hesl, hes, htn⟩ := hrel
      obtain ⟨wz, rfl⟩ : ∃ wz : World, wz = wr := ⟨_, rfl⟩
      have hrz : Row wz W1.heap.size _ _ := (htn.block _ hW17 hnf17).trans hr7
      have zc := hrz.cell 4 (by simp)
      simp only [List.getElem_cons_zero, List.getElem_cons_succ] at zc
      by_cases hkn : k < n1
      · have hke : k < es.length := by omega
        obtain ⟨bb, oo, rfl, hSb, hcell, hbd⟩ := num_at hes k hke
        have hfr := sl_free hes k hke
        have hes2 := sl_putNum hes k hke 0 (by omega)
        have htn2 := htn.set (a := ⟨bb, oo + k, none⟩) hSb (.int .u8 ((0 : Nat) : Int))
        have Hesl := hid hesl
        clear hes htn hesl hrz
        go_wp2_with fail
        go_roundw
        case rel => exact ⟨k + 1, _, by simp, by omega, by rw [List.length_set]; exact Hesl.out, hes2, htn2⟩
        case measure => simp [intOf]; omega
      · clear hes hesl hrz hx7 hr7
        go_upto_region 25 with (fail)
        clear zc
        have hB8 := hB7.turned htn hnF7
        have hrow8 : Row wz wo.heap.size _ _ := (htn.block _ hwo7 hnfwo).trans hrow7
        have hS8 : Same (· < w.heap.size) wo wz := fun b hb => (hB8.low.block b hb).trans (hbw.block b hb).symm
        have hrep8 := PacketS.mono hrep (fun _ h => h) hS8
        have Hcel := And.intro (hrow8.cell 2 (by simp)) (And.intro (hrow8.cell 3 (by simp)) (And.intro (hrow8.cell 4 (by simp)) (And.intro (hrow8.cell 5 (by simp)) (hrow8.cell 6 (by simp)))))
        simp only [List.getElem_cons_zero, List.getElem_cons_succ] at Hcel
        obtain ⟨y2, y3, y4, y5, y6⟩ := Hcel
        have hws := hB8.low.size
        have hwz := hrow8.lt
        clear htn hB7 hnF7 hrow7 hrow8 hS8
        have hE9 := SlE.one hrep8 30
        have hb9 := below_alloc (Below.refl wz.heap.size wz) (.cells #[.int .i64 a1, .int .i64 a2, .int .u64 a3, .bool a4, .slice A1 n1 cap1] 30)
        have hB9 := hB8.below hb9
        go_wp2_with (at_builtin; refine wpList_append_el (r := PacketS) rfl _ _ 26 30 _ 56 rfl Try.underlying26 Try.info30 rfl (by decide) (by decide) w.heap.size _ xs (S := (· < w.heap.size)) _ [ds[i].2.2] rfl rfl ?c10 ?c20 ?c30 ?c40 ?c50 ?_)
        case c10 => exact hB9.own
        case c20 => exact hE9
        case c30 => simp; omega
        case c40 => exact hB9.low.size
        case c50 =>
          intro b hb
          have hb' : b < w.heap.size := hb
          exact ⟨Nat.lt_of_lt_of_le hb' hB9.low.size, fun h => by have := (hB9.own.blk b h.symm).1; omega⟩
        intro v9 w9 hown9 hg9 hv9
        obtain ⟨q1, q2, q3, q4⟩ := Bes.push hB9.net hB9.dis hB9.low (fun k hk => (hB9.own.blk k hk).1) hown9 hg9 (by simpa using hv9)
        have hBf : Bes w F7 S7 gn v9 (xs ++ [ds[i].2.2]) w9 := ⟨q1, q2, q3, q4⟩
        clear q1 q2 q3 q4 hown9 hg9 hv9 hB9 hb9 hE9 hrep8 hB8 y2 y3 y4 y5 y6
        go_wp2_with fail
        (have hmeet_ := a_2.out; go_meet)
        case rel => exact ⟨gn, xs ++ [ds[i].2.2], rfl, by simp; omega, F7, S7, hBf⟩

end Go.Proofs.Ytigdeaeoejpnlaa
