/- The law NetPlays: its walk. -/
import Derived.Test.YtigdeaeoejpnlaaNetP0
import Derived.Test.YtigdeaeoejpnlaaNetP2
import Derived.Test.YtigdeaeoejpnlaaNetP3
import Derived.Test.YtigdeaeoejpnlaaNetP4
import Derived.Test.YtigdeaeoejpnlaaNetP5
namespace Go.Proofs.Ytigdeaeoejpnlaa
open Go.RowKit

set_option maxHeartbeats 8000000 in
set_option maxRecDepth 100000 in
theorem plays_calls (w : World) (ds : List Deed) (v : Value) (hl : DeedS.sl.rep (· < w.heap.size) w ds [v]) :
    Calls Try.prog 4 #[v] w fun e w' => e = .returned (.bool true) ∧ Below w.heap.size w w' := by
  obtain ⟨A, cap, rfl, hcap, hcm⟩ := sl_open hl
  go_enter Try.func4, Try.ntmps4
  go_wp2_with fail
  refine (up_calls w).mono ?_
  rintro e w1 ⟨rfl, hb1⟩
  go_wp2_with fail
  refine (new_calls w1 w.heap.size hb1.size).mono ?_
  rintro e w2 ⟨g, rfl, hN2, hb2⟩
  have hbw2 := below_trans hb1 hb2
  go_wp2_with fail
  go_loopw [4, 5, 6] (fun p lv q wr => ∃ (i g : Nat) (xs : List Packet), p = .pointer (some ⟨g, 0, none⟩) ∧ q = .int .i64 (i : Int) ∧ i ≤ 100 ∧ i ≤ ds.length ∧ xs.length ≤ i ∧ Beside w g lv xs wr) (fun _ _ q _ => ds.length - (intOf q).toNat)
  case atStart => exact ⟨0, g, [], rfl, rfl, by omega, by omega, by simp, _, _, hN2, Own.nil _ _ _ _ _, fun k hk => by simp [Value.ownBlock] at hk, hbw2⟩
  case round =>
    clear hN2 hb1 hb2 hbw2
    obtain ⟨i, gn, xs, rfl, rfl, hi, hids, hxl, F, S, hBes⟩ := hrel
    have hbw := hBes.low
    obtain ⟨wo, rfl⟩ : ∃ wo : World, wo = wr := ⟨_, rfl⟩
    obtain ⟨lA, lc, rfl, hlc, hlm⟩ := hBes.own.val
    by_cases hlt : i < ds.length ∧ i < 100
    · obtain ⟨hlt1, hlt2⟩ := hlt
      have hl1 := DeedS.sl.keep hl (fun _ h => h) hbw
      obtain ⟨b, o, d1, d2, a1, a2, a3, a4, A1, n1, cap1, rfl, hb, hd1, hd2, hrep, hn1, hr1, hr2, c0, c1, c2, c3, c4, c5, c6⟩ := deed_at hl1 i hlt1
      by_cases h2000 : 2000 < n1
      · go_wp2_with fail
        go_ret
        exact ⟨rfl, hbw.alloc hbw.size _⟩
      · have Hd1 := hid hd1
        have Hd2 := hid hd2
        have Hn1 := hid hn1
        clear hd1 hd2 hn1
        go_upto_region 10 with (fail)
        go_cut [8] (fun h8 wc => h8 = .bool (decide (0 ≤ d2 ∧ d2 < (xs.length : Int))) ∧ wc = wo.alloc (.cells #[.int .i64 d1, .int .i64 d2, .int .i64 a1, .int .i64 a2, .int .u64 a3, .bool a4, .slice A1 n1 cap1] 40))
        case first =>
          by_cases h0 : 0 ≤ d2
          · go_wp2_with fail
            go_meet
            case rel => exact ⟨by simp [h0], rfl⟩
          · go_wp2_with fail
            go_meet
            case rel => exact ⟨by rw [decide_eq_false (by omega)], rfl⟩
        case rest =>
          obtain ⟨rfl, rfl⟩ := hcut
          obtain ⟨has, hhas⟩ : ∃ has, has = decide (0 ≤ d2 ∧ d2 < (xs.length : Int)) := ⟨_, rfl⟩
          rw [← hhas]
          have Hhas := hid hhas
          clear hhas
          go_step
          go_step
          go_cut [4, 5] (fun p lv wc => ∃ (g' : Nat) (xs' : List Packet), p = .pointer (some ⟨g', 0, none⟩) ∧ xs'.length ≤ i + 1 ∧ Beside w g' lv xs' wc)
          case first =>
            rename_i hJ9 hK9
            obtain ⟨W1, hW1⟩ : ∃ W1, W1 = wo.alloc (.cells #[.int .i64 d1, .int .i64 d2, .int .i64 a1, .int .i64 a2, .int .u64 a3, .bool a4, .slice A1 n1 cap1] 40) := ⟨_, rfl⟩
            have hb0 := (Below.refl wo.heap.size wo).alloc (Nat.le_refl _) (.cells #[.int .i64 d1, .int .i64 d2, .int .i64 a1, .int .i64 a2, .int .u64 a3, .bool a4, .slice A1 n1 cap1] 40)
            have hrow := Row.new wo 40 #[.int .i64 d1, .int .i64 d2, .int .i64 a1, .int .i64 a2, .int .u64 a3, .bool a4, .slice A1 n1 cap1]
            rw [← hW1] at hb0 hrow ⊢
            have hB1 := hBes.below hb0
            have hrep1 := PacketS.below hrep hb0
            have hdF : (¬ F wo.heap.size ∧ ¬ S wo.heap.size) ∧ (Value.slice lA xs.length lc).ownBlock ≠ some wo.heap.size ∧ w.heap.size ≤ wo.heap.size := ⟨⟨fun hf => by have := (hBes.net.lt _ hf).2; omega, fun hf => by have := (hBes.net.bod _ hf).1; omega⟩, fun hf => by have := (hBes.own.blk _ hf).2; omega, by have := hbw.size; omega⟩
            have hdl := hrow.lt
            clear hW1 hb0 hBes c0 c1 c2 c3 c4 c5 c6 hl1
            have Hlen : xs.length ≤ 100 := by omega
            have Hcel := And.intro (hrow.cell 0 (by simp)) (And.intro (hrow.cell 1 (by simp)) (And.intro (hrow.cell 2 (by simp)) (And.intro (hrow.cell 3 (by simp)) (And.intro (hrow.cell 4 (by simp)) (And.intro (hrow.cell 5 (by simp)) (hrow.cell 6 (by simp)))))))
            simp only [List.getElem_cons_zero, List.getElem_cons_succ] at Hcel
            obtain ⟨y0, y1, y2, y3, y4, y5, y6⟩ := Hcel
            go_wp2_with fail
            refine (pick_calls d1 6 (by omega) hr1 (by omega) _).mono ?_
            rintro e w3 ⟨⟨r, rfl, hr⟩, rfl⟩
            have hrs : r = 0 ∨ r = 1 ∨ r = 2 ∨ r = 3 ∨ r = 4 ∨ r = 5 := by omega
            clear hr
            rcases hrs with rfl | rfl | rfl | rfl | rfl | rfl
            · go_upto_region 18 with (fail)
              rename_i hC9
              exact arm01_walk hids hxl hbw hlc hlm hlt1 hlt2 hrep hr2 h2000 Hd1 Hd2 Hn1 Hhas (hid hJ9) hK9 hrow hB1 hrep1 hdF hdl Hlen y0 y1 y2 y3 y4 y5 y6 hC9
            · go_upto_region 18 with (fail)
              rename_i hC9
              exact arm01_walk hids hxl hbw hlc hlm hlt1 hlt2 hrep hr2 h2000 Hd1 Hd2 Hn1 Hhas (hid hJ9) hK9 hrow hB1 hrep1 hdF hdl Hlen y0 y1 y2 y3 y4 y5 y6 hC9
            · go_upto_region 29 with (fail)
              rename_i hC9
              exact arm2_walk hids hxl hbw hlc hlm hlt1 hlt2 hrep hr2 h2000 Hd1 Hd2 Hn1 Hhas (hid hJ9) hK9 hrow hB1 hrep1 hdF hdl Hlen y0 y1 y2 y3 y4 y5 y6 hC9
            · go_upto_region 37 with (fail)
              rename_i hC9
              refine arm3_walk hids hxl hbw hlc hlm hlt1 hlt2 hrep hr2 h2000 Hd1 Hd2 Hn1 Hhas (hid hJ9) hK9 hrow hB1 hrep1 hdF hdl Hlen y0 y1 y2 y3 y4 y5 y6 hC9 ?_
              intro c9 c10 c11 c12 c13 c14 c15 c16 c17 c18 c19 c25 c26 c27 c28 c29 c30 c31 c32 c33 c34 c35 c36 c37 c38 c39 c40 c41 c42 c43 c44 c45 c46 c47 c48 c49 c50 c51 c52 c53 c54 c55 c56 c57 c58 c59 c60 c61 c62 c63 c64 c65 c66 c67 c68 c69 c70 c71 c72 c73 c74 c75 c76 c77 c78 c79 c80 c81 c82 c83 c84 c85 c86 c87 c88 c89 c90 c91 c92 c93 c94 c95 c96 c97 c98 c99 c100 c101 c102 c103 c104 c105 c106 c107 c108 c109 c110 c111 c112 c113 c114 c115 c116 c117 c118 c119 c120 c121 c122 c123 c124 c125 c126 c127 c128 c129 c130 c131 c132 c133 c134 c135 c136 c137 c138 c139 c140 c141 c142 c143 c144 c145 c146 c147 c148 c149 c150 c151 c152 c153 c154 c155 c156 c157 c158 c159 c160 c161 c162 c163 c164 c165 c166 c167 c168 c169 c170 c171 c172 c173 c174 c175 c176 c177 c178 c179 c180 c181 c182 c183 c184 c185 c186 c187 c188 c189 c190 c191 c192 c193 c194 c195 c196 c197 c198 c199 c200 c201 c202 c203 c204 c205 c206 c207 c208 c209 c210 c211 c212 c213 c214 c215 c216 c217 c218 c219 c220 c221 c222 w9 hB9
              go_wp2_with fail
              go_roundw
              case rel => exact ⟨i + 1, gn, xs, rfl, by simp, by omega, by omega, by omega, F, S, hB9⟩
              case measure => simp [intOf]; omega
            · go_upto_region 46 with (fail)
              rename_i hC9
              refine arm4_walk hids hxl hbw hlc hlm hlt1 hlt2 hrep hr2 h2000 Hd1 Hd2 Hn1 Hhas (hid hJ9) hK9 hrow hB1 hrep1 hdF hdl Hlen y0 y1 y2 y3 y4 y5 y6 hC9 ?_
              intro c9 c10 c11 c12 c13 c14 c15 c16 c17 c18 c19 c25 c26 c27 c28 c29 c30 c31 c32 c33 c34 c35 c36 c37 c38 c39 c40 c41 c42 c43 c44 c45 c46 c47 c48 c49 c50 c51 c52 c53 c54 c55 c56 c57 c58 c59 c60 c61 c62 c63 c64 c65 c66 c67 c68 c69 c70 c71 c72 c73 c74 c75 c76 c77 c78 c79 c80 c81 c82 c83 c84 c85 c86 c87 c88 c89 c90 c91 c92 c93 c94 c95 c96 c97 c98 c99 c100 c101 c102 c103 c104 c105 c106 c107 c108 c109 c110 c111 c112 c113 c114 c115 c116 c117 c118 c119 c120 c121 c122 c123 c124 c125 c126 c127 c128 c129 c130 c131 c132 c133 c134 c135 c136 c137 c138 c139 c140 c141 c142 c143 c144 c145 c146 c147 c148 c149 c150 c151 c152 c153 c154 c155 c156 c157 c158 c159 c160 c161 c162 c163 c164 c165 c166 c167 c168 c169 c170 c171 c172 c173 c174 c175 c176 c177 c178 c179 c180 c181 c182 c183 c184 c185 c186 c187 c188 c189 c190 c191 c192 c193 c194 c195 c196 c197 c198 c199 c200 c201 c202 c203 c204 c205 c206 c207 c208 c209 c210 c211 c212 c213 c214 c215 c216 c217 c218 c219 c220 c221 c222 w9 hB9
              go_wp2_with fail
              go_roundw
              case rel => exact ⟨i + 1, gn, xs, rfl, by simp, by omega, by omega, by omega, F, S, hB9⟩
              case measure => simp [intOf]; omega
            · go_upto_region 12 with (fail)
              rename_i hC9
              exact arm5_walk hids hxl hbw hlc hlm hlt1 hlt2 hrep hr2 h2000 Hd1 Hd2 Hn1 Hhas (hid hJ9) hK9 hrow hB1 hrep1 hdF hdl Hlen y0 y1 y2 y3 y4 y5 y6 hC9
          case rest =>
            obtain ⟨g', xs', rfl, hxl', F', S', hBes'⟩ := hcut
            obtain ⟨lA', lc', rfl, hlc', hlm'⟩ := hBes'.own.val
            clear hBes hbw hl1 c0 c1 c2 c3 c4 c5 c6 hrep
            go_wp2_with fail
            refine (netlen_calls hBes'.net).mono ?_
            rintro e w4 ⟨rfl, rfl⟩
            go_wp2_with fail
            go_roundw
            case rel => exact ⟨i + 1, g', xs', rfl, by simp, by omega, by omega, by omega, F', S', hBes'⟩
            case measure => simp [intOf]; omega
    · have Hlen : xs.length ≤ 100 := by omega
      by_cases hlt1 : i < ds.length
      · have h100 : ¬ (i < 100) := fun h => hlt ⟨hlt1, h⟩
        clear hlt
        go_wp2_with fail
        go_loopw [20] (fun q wr => ∃ k : Nat, q = .int .i64 (k : Int) ∧ k ≤ xs.length ∧ Bes w F S gn (.slice lA xs.length lc) xs wr) (fun q _ => xs.length - (intOf q).toNat)
        case atStart => exact ⟨0, rfl, by omega, hBes⟩
        case round =>
          clear hBes hbw
          obtain ⟨m, rfl, hmx, hB1⟩ := hrel
          obtain ⟨W1, rfl⟩ : ∃ W1 : World, W1 = wr := ⟨_, rfl⟩
          by_cases hm : m < xs.length
          · have hpk0 : xs[m]? = some xs[m] := List.getElem?_eq_getElem hm
            obtain ⟨pk, hpk⟩ : ∃ pk, pk = xs[m] := ⟨_, rfl⟩
            rw [← hpk] at hpk0
            go_wp2_with fail
            refine (peek_ok hB1.net m pk hpk0).mono ?_
            rintro e w3 ⟨cs3, rfl, hx3, hb3⟩
            obtain ⟨A8, cap8, rfl, _⟩ := packet_open hx3
            have hB3 := hB1.below hb3
            have hb9 := below_alloc (Below.refl w3.heap.size w3) (.cells #[.int .i64 pk.1, .int .i64 pk.2.1, .int .u64 (pk.2.2.1 : Int), .bool pk.2.2.2.1, .slice A8 pk.2.2.2.2.length cap8] 30)
            have hX9 := PacketS.below hx3 hb9.drew
            have hX9b : Box w3.heap.size (Fresh W1 w3) _ pk A8 cap8 := ⟨(Row.new w3 30 #[.int .i64 pk.1, .int .i64 pk.2.1, .int .u64 (pk.2.2.1 : Int), .bool pk.2.2.2.1, .slice A8 pk.2.2.2.2.length cap8]).drew, hX9⟩
            have hB9 := hB3.below hb9.drew
            have hl9 := hB9.own.sl (S' := (· < w3.heap.size)) (fun b hb => by have h1 : b < w.heap.size := hb; have := hB3.low.size; omega) (fun k hk => (hB3.own.blk k hk).2) (by have e : PacketS.by_ = 56 := rfl; rw [e]; omega)
            obtain ⟨b', o', e1, e2, e3, e4, E1, m1, cape, rfl, hb', hrepl, c0, c1, c2, c3, c4⟩ := packet_at hl9 m hm
            rw [← hpk] at hrepl
            clear hpk hpk0 hl9
            go_upto_region 59 with (fail)
            obtain ⟨x0, x1, x2, x3, x4⟩ := hX9b.cells
            have hz9 : w3.heap.size < (w3.alloc (.cells #[.int .i64 pk.1, .int .i64 pk.2.1, .int .u64 (pk.2.2.1 : Int), .bool pk.2.2.2.1, .slice A8 pk.2.2.2.2.length cap8] 30)).drew.heap.size := by show _ < (w3.alloc _).heap.size; simp
            have hz10 : b' < (w3.alloc (.cells #[.int .i64 pk.1, .int .i64 pk.2.1, .int .u64 (pk.2.2.1 : Int), .bool pk.2.2.2.1, .slice A8 pk.2.2.2.2.length cap8] 30)).drew.heap.size := by
              show _ < (w3.alloc _).heap.size
              have h1 : b' < w3.heap.size := hb'
              simp
              omega
            first
            | (go_region_held3 (fun w' => w'.cell? ⟨w3.heap.size, 0, none⟩ = some (.int .i64 pk.1) ∧ w'.cell? ⟨w3.heap.size, 1, none⟩ = some (.int .i64 pk.2.1) ∧ w'.cell? ⟨w3.heap.size, 2, none⟩ = some (.int .u64 (pk.2.2.1 : Int)) ∧ w'.cell? ⟨w3.heap.size, 3, none⟩ = some (.bool pk.2.2.2.1) ∧ w'.cell? ⟨w3.heap.size, 4, none⟩ = some (.slice A8 pk.2.2.2.2.length cap8) ∧
                   w'.cell? ⟨b', o' + m * 5, none⟩ = some (.int .i64 e1) ∧ w'.cell? ⟨b', o' + m * 5 + 1, none⟩ = some (.int .i64 e2) ∧ w'.cell? ⟨b', o' + m * 5 + 2, none⟩ = some (.int .u64 e3) ∧ w'.cell? ⟨b', o' + m * 5 + 3, none⟩ = some (.bool e4) ∧ w'.cell? ⟨b', o' + m * 5 + 4, none⟩ = some (.slice E1 m1 cape))
                 (first | exact ⟨x0, x1, x2, x3, x4, c0, c1, c2, c3, c4⟩ | exact hSD)
                 (first
                 | (go_at_call 18
                    refine (same_true hX9 hrepl).mono ?_
                    rintro e wD ⟨rfl, hbD⟩
                    have hSD := And.intro ((hbD.cell (p := ⟨w3.heap.size, 0, none⟩) hz9).trans x0) (And.intro ((hbD.cell (p := ⟨w3.heap.size, 1, none⟩) hz9).trans x1) (And.intro ((hbD.cell (p := ⟨w3.heap.size, 2, none⟩) hz9).trans x2) (And.intro ((hbD.cell (p := ⟨w3.heap.size, 3, none⟩) hz9).trans x3) (And.intro ((hbD.cell (p := ⟨w3.heap.size, 4, none⟩) hz9).trans x4)
                      (And.intro ((hbD.cell (p := ⟨b', o' + m * 5, none⟩) hz10).trans c0) (And.intro ((hbD.cell (p := ⟨b', o' + m * 5 + 1, none⟩) hz10).trans c1) (And.intro ((hbD.cell (p := ⟨b', o' + m * 5 + 2, none⟩) hz10).trans c2) (And.intro ((hbD.cell (p := ⟨b', o' + m * 5 + 3, none⟩) hz10).trans c3) ((hbD.cell (p := ⟨b', o' + m * 5 + 4, none⟩) hz10).trans c4))))))))))
                 | fail))
            | fail "held3"
            have hBD := hB9.below hbD
            clear hSD x0 x1 x2 x3 x4 c0 c1 c2 c3 c4 hX9 hX9b hB9 hrepl hB3
            go_wp2_with fail
            go_roundw
            case rel => exact ⟨m + 1, by simp, by omega, hBD⟩
            case measure => simp [intOf]; omega
          · have hL := hB1.low
            clear hB1
            go_wp2_with fail
            go_ret
            exact ⟨rfl, hL⟩
      · clear hlt
        go_wp2_with fail
        go_loopw [20] (fun q wr => ∃ k : Nat, q = .int .i64 (k : Int) ∧ k ≤ xs.length ∧ Bes w F S gn (.slice lA xs.length lc) xs wr) (fun q _ => xs.length - (intOf q).toNat)
        case atStart => exact ⟨0, rfl, by omega, hBes⟩
        case round =>
          clear hBes hbw
          obtain ⟨m, rfl, hmx, hB1⟩ := hrel
          obtain ⟨W1, rfl⟩ : ∃ W1 : World, W1 = wr := ⟨_, rfl⟩
          by_cases hm : m < xs.length
          · have hpk0 : xs[m]? = some xs[m] := List.getElem?_eq_getElem hm
            obtain ⟨pk, hpk⟩ : ∃ pk, pk = xs[m] := ⟨_, rfl⟩
            rw [← hpk] at hpk0
            go_wp2_with fail
            refine (peek_ok hB1.net m pk hpk0).mono ?_
            rintro e w3 ⟨cs3, rfl, hx3, hb3⟩
            obtain ⟨A8, cap8, rfl, _⟩ := packet_open hx3
            have hB3 := hB1.below hb3
            have hb9 := below_alloc (Below.refl w3.heap.size w3) (.cells #[.int .i64 pk.1, .int .i64 pk.2.1, .int .u64 (pk.2.2.1 : Int), .bool pk.2.2.2.1, .slice A8 pk.2.2.2.2.length cap8] 30)
            have hX9 := PacketS.below hx3 hb9.drew
            have hX9b : Box w3.heap.size (Fresh W1 w3) _ pk A8 cap8 := ⟨(Row.new w3 30 #[.int .i64 pk.1, .int .i64 pk.2.1, .int .u64 (pk.2.2.1 : Int), .bool pk.2.2.2.1, .slice A8 pk.2.2.2.2.length cap8]).drew, hX9⟩
            have hB9 := hB3.below hb9.drew
            have hl9 := hB9.own.sl (S' := (· < w3.heap.size)) (fun b hb => by have h1 : b < w.heap.size := hb; have := hB3.low.size; omega) (fun k hk => (hB3.own.blk k hk).2) (by have e : PacketS.by_ = 56 := rfl; rw [e]; omega)
            obtain ⟨b', o', e1, e2, e3, e4, E1, m1, cape, rfl, hb', hrepl, c0, c1, c2, c3, c4⟩ := packet_at hl9 m hm
            rw [← hpk] at hrepl
            clear hpk hpk0 hl9
            go_upto_region 59 with (fail)
            obtain ⟨x0, x1, x2, x3, x4⟩ := hX9b.cells
            have hz9 : w3.heap.size < (w3.alloc (.cells #[.int .i64 pk.1, .int .i64 pk.2.1, .int .u64 (pk.2.2.1 : Int), .bool pk.2.2.2.1, .slice A8 pk.2.2.2.2.length cap8] 30)).drew.heap.size := by show _ < (w3.alloc _).heap.size; simp
            have hz10 : b' < (w3.alloc (.cells #[.int .i64 pk.1, .int .i64 pk.2.1, .int .u64 (pk.2.2.1 : Int), .bool pk.2.2.2.1, .slice A8 pk.2.2.2.2.length cap8] 30)).drew.heap.size := by
              show _ < (w3.alloc _).heap.size
              have h1 : b' < w3.heap.size := hb'
              simp
              omega
            first
            | (go_region_held3 (fun w' => w'.cell? ⟨w3.heap.size, 0, none⟩ = some (.int .i64 pk.1) ∧ w'.cell? ⟨w3.heap.size, 1, none⟩ = some (.int .i64 pk.2.1) ∧ w'.cell? ⟨w3.heap.size, 2, none⟩ = some (.int .u64 (pk.2.2.1 : Int)) ∧ w'.cell? ⟨w3.heap.size, 3, none⟩ = some (.bool pk.2.2.2.1) ∧ w'.cell? ⟨w3.heap.size, 4, none⟩ = some (.slice A8 pk.2.2.2.2.length cap8) ∧
                   w'.cell? ⟨b', o' + m * 5, none⟩ = some (.int .i64 e1) ∧ w'.cell? ⟨b', o' + m * 5 + 1, none⟩ = some (.int .i64 e2) ∧ w'.cell? ⟨b', o' + m * 5 + 2, none⟩ = some (.int .u64 e3) ∧ w'.cell? ⟨b', o' + m * 5 + 3, none⟩ = some (.bool e4) ∧ w'.cell? ⟨b', o' + m * 5 + 4, none⟩ = some (.slice E1 m1 cape))
                 (first | exact ⟨x0, x1, x2, x3, x4, c0, c1, c2, c3, c4⟩ | exact hSD)
                 (first
                 | (go_at_call 18
                    refine (same_true hX9 hrepl).mono ?_
                    rintro e wD ⟨rfl, hbD⟩
                    have hSD := And.intro ((hbD.cell (p := ⟨w3.heap.size, 0, none⟩) hz9).trans x0) (And.intro ((hbD.cell (p := ⟨w3.heap.size, 1, none⟩) hz9).trans x1) (And.intro ((hbD.cell (p := ⟨w3.heap.size, 2, none⟩) hz9).trans x2) (And.intro ((hbD.cell (p := ⟨w3.heap.size, 3, none⟩) hz9).trans x3) (And.intro ((hbD.cell (p := ⟨w3.heap.size, 4, none⟩) hz9).trans x4)
                      (And.intro ((hbD.cell (p := ⟨b', o' + m * 5, none⟩) hz10).trans c0) (And.intro ((hbD.cell (p := ⟨b', o' + m * 5 + 1, none⟩) hz10).trans c1) (And.intro ((hbD.cell (p := ⟨b', o' + m * 5 + 2, none⟩) hz10).trans c2) (And.intro ((hbD.cell (p := ⟨b', o' + m * 5 + 3, none⟩) hz10).trans c3) ((hbD.cell (p := ⟨b', o' + m * 5 + 4, none⟩) hz10).trans c4))))))))))
                 | fail))
            | fail "held3"
            have hBD := hB9.below hbD
            clear hSD x0 x1 x2 x3 x4 c0 c1 c2 c3 c4 hX9 hX9b hB9 hrepl hB3
            go_wp2_with fail
            go_roundw
            case rel => exact ⟨m + 1, by simp, by omega, hBD⟩
            case measure => simp [intOf]; omega
          · have hL := hB1.low
            clear hB1
            go_wp2_with fail
            go_ret
            exact ⟨rfl, hL⟩

end Go.Proofs.Ytigdeaeoejpnlaa
