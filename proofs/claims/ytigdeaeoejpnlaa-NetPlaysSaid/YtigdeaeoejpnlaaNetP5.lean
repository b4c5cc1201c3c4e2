/- The law NetPlays: its walk, one arm of the switch. -/
import Derived.Test.YtigdeaeoejpnlaaNetN0
namespace Go.Proofs.Ytigdeaeoejpnlaa
open Go.RowKit

set_option maxHeartbeats 8000000 in
set_option maxRecDepth 100000 in
theorem arm5_walk {w : World}
    {ds : List Deed}
    {cap : Nat}
    {g : Nat}
    {u2 u9 u10 u11 u12 u13 u14 u15 u16 u17 u18 u19 :
  Value}
    {i gn : Nat}
    {xs : List Packet}
    (hids : i ≤ ds.length)
    (hxl : xs.length ≤ i)
    {F S : Nat → Prop}
    {wo : World}
    (hbw : Below w.heap.size w wo)
    {lA : Option Addr}
    {lc : Nat}
    (hlc : xs.length ≤ lc)
    (hlm : lc ≤ 9223372036854775807)
    (hlt1 : i < ds.length)
    (hlt2 : i < 100)
    {b o : Nat}
    {d1 d2 a1 a2 a3 : Int}
    {a4 : Bool}
    {A1 : Option Addr}
    {n1 cap1 : Nat}
    (hrep :
  PacketS.rep (fun x => x < w.heap.size) wo ds[i].snd.snd
    [Value.int IntKind.i64 a1, Value.int IntKind.i64 a2, Value.int IntKind.u64 a3, Value.bool a4,
      Value.slice A1 n1 cap1])
    (hr2 : -9223372036854775808 ≤ d2 ∧ d2 ≤ 9223372036854775807)
    (h2000 : ¬2000 < n1)
    (Hd1 : Hid (d1 = ds[i].fst))
    (Hd2 : Hid (d2 = ds[i].snd.fst))
    (Hn1 : Hid (n1 = ds[i].snd.snd.snd.snd.snd.snd.length))
    {Qp_0 : Exit → Act → World → Prop }
    {K_2 : Act → World → Prop}
    {u25 u26 u27 u28 u29 u30 u31 u32 u33 u34 u35 u36 u37 u38 u39 u40 u41 u42 u43 u44 u45 u46 u47 u48 u49 u50 u51 u52 u53 u54 u55 u56 u57 u58 u59 u60 u61 u62 u66 u67 u68 u69 u70 u71 u72 u73 u74 u78 u79 u80 u81 u82 u83 u84 u85 u86 u87 u88 u89 u90 u91 u92 u93 u94 u95 u96 u97 u98 u99 u100 u101 u102 u103 u104 u105 u106 u107 u110 u111 u112 u113 u114 u115 u116 u117 u118 u119 u120 u121 u122 u123 u124 u125 u126 u127 u128 u129 u130 u131 u132 u133 u134 u135 u136 u137 u138 u139 u140 u141 u142 u143 u144 u145 u146 u147 u148 u149 u150 u151 u154 u155 u156 u157 u158 u159 u160 u161 u162 u163 u164 u165 u166 u167 u168 u169 u170 u171 u172 u173 u174 u175 u176 u177 u178 u179 u180 u181 u182 u183 u184 u185 u186 u187 u188 u189 u190 u193 u194 u195 u196 u197 u198 u199 u200 u201 u202 u203 u204 u205 u206 u207 u208 u209 u210 u211 u212 u213 u214 u215 u216 u217 u218 u219 u220 u221 u222 :
  Value}
    {has : Bool}
    (Hhas : Hid (has = decide (0 ≤ d2 ∧ d2 < (↑xs.length : Int))))
    {J_0 Kp_0 : Act → World → Prop}
    (a_2 : Hid (
  ∀ (a' : Act) (w' : World),
    (∃ u2 u4 u5 u9 u10 u11 u12 u13 u14 u15 u16 u17 u18 u19 u25 u26 u27 u28 u29 u30 u31 u32 u33 u34 u35 u36 u37 u38 u39
        u40 u41 u42 u43 u44 u45 u46 u47 u48 u49 u50 u51 u52 u53 u54 u55 u56 u57 u58 u59 u60 u61 u62 u63 u64 u65 u66 u67
        u68 u69 u70 u71 u72 u73 u74 u75 u76 u77 u78 u79 u80 u81 u82 u83 u84 u85 u86 u87 u88 u89 u90 u91 u92 u93 u94 u95
        u96 u97 u98 u99 u100 u101 u102 u103 u104 u105 u106 u107 u108 u109 u110 u111 u112 u113 u114 u115 u116 u117 u118
        u119 u120 u121 u122 u123 u124 u125 u126 u127 u128 u129 u130 u131 u132 u133 u134 u135 u136 u137 u138 u139 u140
        u141 u142 u143 u144 u145 u146 u147 u148 u149 u150 u151 u152 u153 u154 u155 u156 u157 u158 u159 u160 u161 u162
        u163 u164 u165 u166 u167 u168 u169 u170 u171 u172 u173 u174 u175 u176 u177 u178 u179 u180 u181 u182 u183 u184
        u185 u186 u187 u188 u189 u190 u191 u192 u193 u194 u195 u196 u197 u198 u199 u200 u201 u202 u203 u204 u205 u206
        u207 u208 u209 u210 u211 u212 u213 u214 u215 u216 u217 u218 u219 u220 u221 u222,
        (∃ g' xs', u4 = Value.pointer (some { block := g', off := 0 }) ∧ xs'.length ≤ i + 1 ∧ Beside w g' u5 xs' w') ∧
          a' =
            {
              tmps :=
                (Value.slice (some { block := b, off := o }) ds.length cap :: undef :: u2 :: Value.bool true :: u4 :: u5 :: Value.int IntKind.i64 (↑i : Int) :: Value.pointer (some { block := wo.heap.size, off := 0 }) :: Value.bool has :: u9 :: u10 :: u11 :: u12 :: u13 :: u14 :: u15 :: u16 :: u17 :: u18 :: u19 :: undef :: undef :: undef :: Value.bool true :: Value.pointer (some { block := g, off := 0 }) :: u25 :: u26 :: u27 :: u28 :: u29 :: u30 :: u31 :: u32 :: u33 :: u34 :: u35 :: u36 :: u37 :: u38 :: u39 :: u40 :: u41 :: u42 :: u43 :: u44 :: u45 :: u46 :: u47 :: u48 :: u49 :: u50 :: u51 :: u52 :: u53 :: u54 :: u55 :: u56 :: u57 :: u58 :: u59 :: u60 :: u61 :: u62 :: u63 :: u64 :: u65 :: u66 :: u67 :: u68 :: u69 :: u70 :: u71 :: u72 :: u73 :: u74 :: u75 :: u76 :: u77 :: u78 :: u79 :: u80 :: u81 :: u82 :: u83 :: u84 :: u85 :: u86 :: u87 :: u88 :: u89 :: u90 :: u91 :: u92 :: u93 :: u94 :: u95 :: u96 :: u97 :: u98 :: u99 :: u100 :: u101 :: u102 :: u103 :: u104 :: u105 :: u106 :: u107 :: u108 :: u109 :: u110 :: u111 :: u112 :: u113 :: u114 :: u115 :: u116 :: u117 :: u118 :: u119 :: u120 :: u121 :: u122 :: u123 :: u124 :: u125 :: u126 :: u127 :: u128 :: u129 :: u130 :: u131 :: u132 :: u133 :: u134 :: u135 :: u136 :: u137 :: u138 :: u139 :: u140 :: u141 :: u142 :: u143 :: u144 :: u145 :: u146 :: u147 :: u148 :: u149 :: u150 :: u151 :: u152 :: u153 :: u154 :: u155 :: u156 :: u157 :: u158 :: u159 :: u160 :: u161 :: u162 :: u163 :: u164 :: u165 :: u166 :: u167 :: u168 :: u169 :: u170 :: u171 :: u172 :: u173 :: u174 :: u175 :: u176 :: u177 :: u178 :: u179 :: u180 :: u181 :: u182 :: u183 :: u184 :: u185 :: u186 :: u187 :: u188 :: u189 :: u190 :: u191 :: u192 :: u193 :: u194 :: u195 :: u196 :: u197 :: u198 :: u199 :: u200 :: u201 :: u202 :: u203 :: u204 :: u205 :: u206 :: u207 :: u208 :: u209 :: u210 :: u211 :: u212 :: u213 :: u214 :: u215 :: u216 :: u217 :: u218 :: u219 :: u220 :: u221 :: u222 :: undef :: undef :: undef :: undef :: undef :: undef :: undef :: undef :: undef :: undef :: undef :: undef :: undef :: undef :: undef :: undef :: undef :: undef :: undef :: undef :: undef :: undef :: undef :: undef :: undef :: undef :: undef :: undef :: ([] : List Value)).toArray,
              defers := [] }) →
      J_0 a' w'))
    (a_1 : ∀ (a' : Act) (w' : World), Met J_0 a' w' → Kp_0 a' w')
    {W1 : World}
    (hrow :
  Row W1 wo.heap.size 40
    [Value.int IntKind.i64 d1, Value.int IntKind.i64 d2, Value.int IntKind.i64 a1, Value.int IntKind.i64 a2,
      Value.int IntKind.u64 a3, Value.bool a4, Value.slice A1 n1 cap1])
    (hB1 : Bes w F S gn (Value.slice lA xs.length lc) xs W1)
    (hrep1 :
  PacketS.rep (fun x => x < w.heap.size) W1 ds[i].snd.snd
    [Value.int IntKind.i64 a1, Value.int IntKind.i64 a2, Value.int IntKind.u64 a3, Value.bool a4,
      Value.slice A1 n1 cap1])
    (hdF :
  (¬F wo.heap.size ∧ ¬S wo.heap.size) ∧
    (Value.slice lA xs.length lc).ownBlock ≠ some wo.heap.size ∧ w.heap.size ≤ wo.heap.size)
    (hdl : wo.heap.size < W1.heap.size)
    (Hlen : xs.length ≤ 100)
    (y0 : W1.cell? { block := wo.heap.size, off := 0 } = some (Value.int IntKind.i64 d1))
    (y1 : W1.cell? { block := wo.heap.size, off := 1 } = some (Value.int IntKind.i64 d2))
    (y2 : W1.cell? { block := wo.heap.size, off := 2 } = some (Value.int IntKind.i64 a1))
    (y3 : W1.cell? { block := wo.heap.size, off := 3 } = some (Value.int IntKind.i64 a2))
    (y4 : W1.cell? { block := wo.heap.size, off := 4 } = some (Value.int IntKind.u64 a3))
    (y5 : W1.cell? { block := wo.heap.size, off := 5 } = some (Value.bool a4))
    (y6 : W1.cell? { block := wo.heap.size, off := 6 } = some (Value.slice A1 n1 cap1))
    {K_0 : Act → World → Prop}
    (a_0 :
  ∀ (a : Act) (w : World),
    Code.wp Try.prog
        ((Code.region 13
              #[{ dst := some 68, op := Op.move (Operand.tmp 4), type := 24, pos := "law.go:104", after := #[],
                  guard := none },
                { dst := some 69, op := Op.build 30 #[], type := 30, pos := "law.go:104", after := #[], guard := none },
                { dst := some 70, op := Op.buildSlice 26 1 #[(0, Operand.tmp 69)], type := 26, pos := "law.go:104",
                  after := #[{ on := 1, ground := Ground.data }], guard := none },
                { dst := some 71,
                  op :=
                    Op.call
                      { callee := Callee.value (Operand.func 14), args := #[Operand.tmp 68, Operand.tmp 70],
                        argTypes := #[24, 26] },
                  type := 3, pos := "law.go:104",
                  after := #[{ on := 0, ground := Ground.data }, { on := 2, ground := Ground.data }], guard := none }]
              false).seq
          ((Code.region 14
                #[{ dst := some 72, op := Op.move (Operand.tmp 4), type := 24, pos := "law.go:105", after := #[],
                    guard := none },
                  { dst := some 73,
                    op :=
                      Op.call
                        { callee := Callee.value (Operand.func 19),
                          args := #[Operand.tmp 72, Operand.const (Value.int IntKind.i64 0)], argTypes := #[24, 3] },
                    type := 41, pos := "law.go:105", after := #[{ on := 0, ground := Ground.data }], guard := none }]
                false).seq
            (Code.region 15
              #[{ dst := some 74, op := Op.move (Operand.tmp 19), type := 24, pos := "law.go:106", after := #[],
                  guard := none },
                { dst := some 4, op := Op.assign (Operand.tmp 74), type := 24, pos := "law.go:106",
                  after := #[{ on := 0, ground := Ground.data }, { on := 0, ground := Ground.phase }], guard := none }]
              false)))
        (Exit.inBlock 2 (Exit.then Kp_0 (Exit.inBlock 1 (Exit.then K_2 Qp_0)))) a w →
      K_0 a w) :
    Code.wp Try.prog
    (Code.region 12
      #[{ dst := some 66, op := Op.move (Operand.tmp 4), type := 24, pos := "law.go:103", after := #[], guard := none },
        { dst := some 67,
          op := Op.call { callee := Callee.value (Operand.func 20), args := #[Operand.tmp 66], argTypes := #[24] },
          type := 24, pos := "law.go:103", after := #[{ on := 0, ground := Ground.data }], guard := none },
        { dst := some 19, op := Op.assign (Operand.tmp 67), type := 24, pos := "law.go:103",
          after :=
            #[{ on := 1, ground := Ground.data }, { on := 1, ground := Ground.chain },
              { on := 0, ground := Ground.phase }, { on := 1, ground := Ground.phase }],
          guard := none }]
      false)
    (Exit.then K_0 (Exit.inBlock 2 (Exit.then Kp_0 (Exit.inBlock 1 (Exit.then K_2 Qp_0)))))
    {
      tmps :=
        (Value.slice (some { block := b, off := o }) ds.length cap :: undef :: u2 :: Value.bool true :: Value.pointer (some { block := gn, off := 0 }) :: Value.slice lA xs.length lc :: Value.int IntKind.i64 (↑i : Int) :: Value.pointer (some { block := wo.heap.size, off := 0 }) :: Value.bool has :: u9 :: u10 :: u11 :: u12 :: u13 :: u14 :: u15 :: u16 :: u17 :: u18 :: u19 :: undef :: undef :: undef :: Value.bool true :: Value.pointer (some { block := g, off := 0 }) :: u25 :: u26 :: u27 :: u28 :: u29 :: u30 :: u31 :: u32 :: u33 :: u34 :: u35 :: u36 :: u37 :: u38 :: u39 :: u40 :: u41 :: u42 :: u43 :: u44 :: u45 :: u46 :: u47 :: u48 :: u49 :: u50 :: u51 :: u52 :: u53 :: u54 :: u55 :: u56 :: u57 :: u58 :: u59 :: u60 :: u61 :: u62 :: Value.pointer (some { block := wo.heap.size, off := 0 }) :: Value.int IntKind.i64 d1 :: Value.int IntKind.i64 5 :: u66 :: u67 :: u68 :: u69 :: u70 :: u71 :: u72 :: u73 :: u74 :: Value.bool false :: Value.bool false :: Value.bool false :: u78 :: u79 :: u80 :: u81 :: u82 :: u83 :: u84 :: u85 :: u86 :: u87 :: u88 :: u89 :: u90 :: u91 :: u92 :: u93 :: u94 :: u95 :: u96 :: u97 :: u98 :: u99 :: u100 :: u101 :: u102 :: u103 :: u104 :: u105 :: u106 :: u107 :: Value.bool false :: Value.bool false :: u110 :: u111 :: u112 :: u113 :: u114 :: u115 :: u116 :: u117 :: u118 :: u119 :: u120 :: u121 :: u122 :: u123 :: u124 :: u125 :: u126 :: u127 :: u128 :: u129 :: u130 :: u131 :: u132 :: u133 :: u134 :: u135 :: u136 :: u137 :: u138 :: u139 :: u140 :: u141 :: u142 :: u143 :: u144 :: u145 :: u146 :: u147 :: u148 :: u149 :: u150 :: u151 :: Value.bool false :: Value.bool false :: u154 :: u155 :: u156 :: u157 :: u158 :: u159 :: u160 :: u161 :: u162 :: u163 :: u164 :: u165 :: u166 :: u167 :: u168 :: u169 :: u170 :: u171 :: u172 :: u173 :: u174 :: u175 :: u176 :: u177 :: u178 :: u179 :: u180 :: u181 :: u182 :: u183 :: u184 :: u185 :: u186 :: u187 :: u188 :: u189 :: u190 :: Value.bool false :: Value.bool false :: u193 :: u194 :: u195 :: u196 :: u197 :: u198 :: u199 :: u200 :: u201 :: u202 :: u203 :: u204 :: u205 :: u206 :: u207 :: u208 :: u209 :: u210 :: u211 :: u212 :: u213 :: u214 :: u215 :: u216 :: u217 :: u218 :: u219 :: u220 :: u221 :: u222 :: undef :: undef :: undef :: undef :: undef :: undef :: undef :: undef :: undef :: undef :: undef :: undef :: undef :: undef :: undef :: undef :: undef :: undef :: undef :: undef :: undef :: undef :: undef :: undef :: undef :: undef :: undef :: undef :: ([] : List Value)).toArray,
      defers := [] }
    W1 := by
  go_wp2_with fail
  refine (nclone_calls hB1.net).mono ?_
  rintro e w4 ⟨gc, F4, S4, rfl, hC4, hF4, hS4, hb4⟩
  have hB4 := hB1.below hb4
  have hz4 : PacketS.rep (fun _ => False) w4 ((0 : Int), (0 : Int), (0 : Nat), false, ([] : List Nat)) [.int .i64 0, .int .i64 0, .int .u64 0, .bool false, .slice none 0 0] := packet_make (by omega) (by omega) (by unfold B64; omega) (sl_nil _ _ _)
  have hzr := packet_slice hz4 30
  have hb5 := below_alloc (Below.refl w4.heap.size w4) (.cells #[.int .i64 0, .int .i64 0, .int .u64 0, .bool false, .slice none 0 0] 30)
  have hB5 := hB4.below hb5
  have hC5 := hC4.below hb5
  have hlt5 := hB5.net.lt
  have hltw := hB4.net.lt
  go_wp2_with fail
  refine (send_calls hB5.net hzr (fun b hb hf => by
    rcases hb with hb | hb
    · have := (hltw b hf).2; omega
    · exact hb)).mono ?_
  rintro e w6 ⟨he, F6, S6, hN6, hF6, hS6, ht6⟩
  obtain ⟨v6, hv6⟩ : ∃ v, e = .returned v := ⟨_, he⟩
  subst hv6
  clear he
  have hB6 := hB5.send hN6 hF6 hS6 ht6
  have hlt1 := hB1.net.lt
  obtain ⟨ys, hys⟩ : ∃ ys, ys = xs ++ List.take (4096 - xs.length) [((0 : Int), (0 : Int), (0 : Nat), false, ([] : List Nat))] := ⟨_, rfl⟩
  have hys0 : 0 < ys.length := by rw [hys]; simp; omega
  rw [← hys] at hN6 hB6
  obtain ⟨p0, hp0⟩ : ∃ p, ys[0]? = some p := ⟨_, List.getElem?_eq_getElem hys0⟩
  have hC6 := hC5.turned ht6 (fun b hb hf => by
    have := (hlt1 b hf).2
    rcases hb with hb | hb
    · have := (hF4 b hb).1; omega
    · have := (hS4 b hb).1; omega)
  obtain ⟨hN6', hO6, hD6, hL6⟩ := hB6
  clear hys hN6'
  go_wp2_with fail
  refine (take_ok hN6 0 p0 hp0).mono ?_
  rintro e w7 ⟨⟨ds7, rfl, hx7⟩, hN7, ht7⟩
  have hs4 := hb4.size
  have hC7 := hC6.turned ht7 (fun b hb hf => by
    have hge : W1.heap.size ≤ b ∧ b < w4.heap.size := by
      rcases hb with hb | hb
      · exact hF4 b hb
      · exact hS4 b hb
    rcases hF6 b hf with h | h
    · have := (hlt1 b h).2; omega
    · have := h.1; simp at this; omega)
  have hO7 := hO6.turned ht7 (fun b hb => ⟨Nat.lt_of_lt_of_le hb hL6.size, fun hf => by have := (hN6.lt b hf).1; have h2 : b < w.heap.size := hb; omega⟩) (fun k hk => (hD6 k hk).1)
  have hL7 := ht7.below hL6 hL6.size (fun k hk => (hN6.lt k hk).1)
  have hD7 : ∀ k, (Value.slice lA xs.length lc).ownBlock = some k → ¬ F4 k ∧ ¬ S4 k := fun k hk => by
    have h1 := (hB1.own.blk k hk).2
    exact ⟨fun hf => by have := (hF4 k hf).1; omega, fun hf => by have := (hS4 k hf).1; omega⟩
  have hBf : Bes w F4 S4 gc (.slice lA xs.length lc) xs w7 := ⟨hC7, hO7, hD7, hL7⟩
  clear hC7 hO7 hD7 hL7 hN6 hN7 ht7 hx7 hC6 hO6 hD6 hL6 hp0 hlt1 hC5 hC4 hB4 hB5 hb5 hzr hz4 hF4 hS4 hF6 hS6 ht6 hlt5 hltw hB1
  go_wp2_with fail
  (have hmeet_ := a_2.out; go_meet)
  case rel => exact ⟨gc, xs, rfl, by omega, F4, S4, hBf⟩

end Go.Proofs.Ytigdeaeoejpnlaa
