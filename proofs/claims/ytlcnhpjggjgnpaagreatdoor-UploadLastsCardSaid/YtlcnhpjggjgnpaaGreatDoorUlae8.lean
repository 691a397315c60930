/- A part of the proof. -/
import Derived.Test.YtlcnhpjggjgnpaaGreatDoorUlae7
namespace Go.Proofs.YtlcnhpjggjgnpaaGreatDoor
set_option linter.unusedVariables false
set_option linter.unusedSimpArgs false
open Go.RowKit Go.MapKept
set_option maxRecDepth 100000 in
set_option maxHeartbeats 8000000 in
theorem ulasts_walk (w0 : World) (hgl : GLen w0) {a : Option Addr} {len cap : Nat} (hlc : len ≤ cap) (hcm : cap ≤ maxLen) (hops : OpsUIn w0 a len) :
  Calls Tryz.prog 5 #[.slice a len cap] w0 (QuietP w0 (.bool true)) := by
 have HGL := Lib.hid hgl
 have HOPS := Lib.hid hops
 unfold maxLen at hcm
 have i0 : (len : Int) ≤ 9223372036854775807 := by omega
 have i1 : (0 : Int) ≤ (len : Int) := by omega
 have HY := Lib.hid (yard13_calls (R := 1048576) (by omega) (by omega) (Own.start w0))
 clear hgl hops hlc hcm
 go_enter Tryz.func5, Tryz.ntmps5
 go_wp2_with fail
 refine HY.out.mono ?_
 rintro e w1 ⟨y, d, st, j, t, b, u, mp, rfl, h1⟩
 have H1 := Lib.hid h1
 have HG1 := Lib.hid (HGL.out.keep h1.keeps)
 clear h1 HY
 go_wp2_with fail
 refine (awake13_calls w1 HG1.out).mono ?_
 rintro e w2 ⟨rfl, hk2⟩
 have H2 := Lib.hid (show ULs w0 0 [] (.pointer (some ⟨y, 0, none⟩)) (.slice none 0 0) w2 from by
  have h2 := (H1.out.quiet hk2).rdsNil
  have h3 := (h2.rdsOld (v := .slice none 0 0) (l := []) (.inl ⟨rfl, rfl⟩)).toEnd
  have h4 := h3.krNil.toEnd
  exact ⟨d, j, t, b, u, st, mp, y, [], none, 0, [], [(.slice none 0 0, [])], rfl, rfl, Nat.le_refl _, KRel.nil, by simp, _, [], 1, LSt.first, trivial, h4⟩)
 clear hk2 H1 HG1
 go_upto_block 0 with fail
 refine wp_cut (fun a' w' => ∃ f : Nat → Value, Keeps (fun _ => False) w0 w' ∧ a' = ⟨(f 0 :: f 1 :: f 2 :: f 3 :: f 4 :: f 5 :: f 6 :: f 7 :: f 8 :: f 9 :: f 10 :: f 11 :: f 12 :: f 13 :: f 14 :: f 15 :: f 16 :: f 17 :: f 18 :: f 19 :: f 20 :: f 21 :: f 22 :: f 23 :: f 24 :: f 25 :: f 26 :: f 27 :: f 28 :: f 29 :: f 30 :: f 31 :: f 32 :: f 33 :: f 34 :: f 35 :: f 36 :: f 37 :: f 38 :: f 39 :: f 40 :: f 41 :: f 42 :: f 43 :: f 44 :: f 45 :: f 46 :: f 47 :: f 48 :: f 49 :: f 50 :: f 51 :: f 52 :: f 53 :: f 54 :: f 55 :: f 56 :: f 57 :: f 58 :: f 59 :: f 60 :: f 61 :: f 62 :: f 63 :: f 64 :: f 65 :: f 66 :: f 67 :: f 68 :: f 69 :: f 70 :: f 71 :: f 72 :: f 73 :: f 74 :: f 75 :: f 76 :: f 77 :: f 78 :: f 79 :: f 80 :: f 81 :: f 82 :: f 83 :: f 84 :: f 85 :: f 86 :: f 87 :: f 88 :: f 89 :: f 90 :: f 91 :: f 92 :: f 93 :: f 94 :: f 95 :: f 96 :: f 97 :: f 98 :: f 99 :: f 100 :: f 101 :: f 102 :: f 103 :: f 104 :: f 105 :: f 106 :: f 107 :: f 108 :: f 109 :: f 110 :: f 111 :: f 112 :: f 113 :: f 114 :: f 115 :: f 116 :: f 117 :: f 118 :: f 119 :: f 120 :: f 121 :: f 122 :: f 123 :: f 124 :: f 125 :: f 126 :: f 127 :: f 128 :: f 129 :: f 130 :: f 131 :: f 132 :: f 133 :: f 134 :: f 135 :: f 136 :: f 137 :: f 138 :: f 139 :: f 140 :: f 141 :: f 142 :: f 143 :: f 144 :: f 145 :: f 146 :: f 147 :: f 148 :: f 149 :: f 150 :: f 151 :: f 152 :: f 153 :: f 154 :: f 155 :: f 156 :: f 157 :: f 158 :: f 159 :: f 160 :: f 161 :: f 162 :: f 163 :: f 164 :: f 165 :: f 166 :: f 167 :: f 168 :: f 169 :: f 170 :: f 171 :: f 172 :: f 173 :: f 174 :: f 175 :: f 176 :: f 177 :: f 178 :: f 179 :: f 180 :: f 181 :: f 182 :: f 183 :: f 184 :: f 185 :: f 186 :: f 187 :: f 188 :: f 189 :: f 190 :: f 191 :: f 192 :: f 193 :: f 194 :: f 195 :: f 196 :: f 197 :: f 198 :: f 199 :: f 200 :: f 201 :: f 202 :: f 203 :: f 204 :: f 205 :: f 206 :: f 207 :: f 208 :: f 209 :: f 210 :: f 211 :: f 212 :: f 213 :: f 214 :: f 215 :: f 216 :: f 217 :: f 218 :: f 219 :: f 220 :: f 221 :: f 222 :: f 223 :: f 224 :: f 225 :: f 226 :: f 227 :: f 228 :: f 229 :: f 230 :: f 231 :: f 232 :: f 233 :: f 234 :: f 235 :: f 236 :: f 237 :: f 238 :: f 239 :: f 240 :: f 241 :: f 242 :: f 243 :: f 244 :: f 245 :: f 246 :: f 247 :: f 248 :: f 249 :: f 250 :: f 251 :: f 252 :: f 253 :: f 254 :: f 255 :: f 256 :: f 257 :: f 258 :: f 259 :: f 260 :: f 261 :: f 262 :: f 263 :: f 264 :: f 265 :: f 266 :: f 267 :: f 268 :: f 269 :: f 270 :: f 271 :: f 272 :: f 273 :: f 274 :: f 275 :: f 276 :: f 277 :: f 278 :: f 279 :: [] : List Value).toArray, []⟩) ?rest0 ?first0
 case first0 =>
  intro _ _ _ _
  as_aux_lemma =>
   go_wp2_with fail
   refine wp_loop (fun a' w' => ∃ f : Nat → Value, (∃ k : Nat, k ≤ len ∧ k ≤ 50 ∧ f 30 = .int .i64 (k : Int) ∧ ULs w0 k [] (f 3) (f 4) w') ∧ a' = ⟨(f 0 :: f 1 :: f 2 :: f 3 :: f 4 :: f 5 :: f 6 :: f 7 :: f 8 :: f 9 :: f 10 :: f 11 :: f 12 :: f 13 :: f 14 :: f 15 :: f 16 :: f 17 :: f 18 :: f 19 :: f 20 :: f 21 :: f 22 :: f 23 :: f 24 :: f 25 :: f 26 :: f 27 :: .slice a len cap :: .int .i64 (len : Int) :: f 30 :: f 31 :: f 32 :: f 33 :: f 34 :: f 35 :: f 36 :: f 37 :: f 38 :: f 39 :: f 40 :: f 41 :: f 42 :: f 43 :: f 44 :: f 45 :: f 46 :: f 47 :: f 48 :: f 49 :: f 50 :: f 51 :: f 52 :: f 53 :: f 54 :: f 55 :: f 56 :: f 57 :: f 58 :: f 59 :: f 60 :: f 61 :: f 62 :: f 63 :: f 64 :: f 65 :: f 66 :: f 67 :: f 68 :: f 69 :: f 70 :: f 71 :: f 72 :: f 73 :: f 74 :: f 75 :: f 76 :: f 77 :: f 78 :: f 79 :: f 80 :: f 81 :: f 82 :: f 83 :: f 84 :: f 85 :: f 86 :: f 87 :: f 88 :: f 89 :: f 90 :: f 91 :: f 92 :: f 93 :: f 94 :: f 95 :: f 96 :: f 97 :: f 98 :: f 99 :: f 100 :: f 101 :: f 102 :: f 103 :: f 104 :: f 105 :: f 106 :: f 107 :: f 108 :: f 109 :: f 110 :: f 111 :: f 112 :: f 113 :: f 114 :: f 115 :: f 116 :: f 117 :: f 118 :: f 119 :: f 120 :: f 121 :: f 122 :: f 123 :: f 124 :: f 125 :: f 126 :: f 127 :: f 128 :: f 129 :: f 130 :: f 131 :: f 132 :: f 133 :: f 134 :: f 135 :: f 136 :: f 137 :: f 138 :: f 139 :: f 140 :: f 141 :: f 142 :: f 143 :: f 144 :: f 145 :: f 146 :: f 147 :: f 148 :: f 149 :: f 150 :: f 151 :: f 152 :: f 153 :: f 154 :: f 155 :: f 156 :: f 157 :: f 158 :: f 159 :: f 160 :: f 161 :: f 162 :: f 163 :: f 164 :: f 165 :: f 166 :: f 167 :: f 168 :: f 169 :: f 170 :: f 171 :: f 172 :: f 173 :: f 174 :: f 175 :: f 176 :: f 177 :: f 178 :: f 179 :: f 180 :: f 181 :: f 182 :: f 183 :: f 184 :: f 185 :: f 186 :: f 187 :: f 188 :: f 189 :: f 190 :: f 191 :: f 192 :: f 193 :: f 194 :: f 195 :: f 196 :: f 197 :: f 198 :: f 199 :: f 200 :: f 201 :: f 202 :: f 203 :: f 204 :: f 205 :: f 206 :: f 207 :: f 208 :: f 209 :: f 210 :: f 211 :: f 212 :: f 213 :: f 214 :: f 215 :: f 216 :: f 217 :: f 218 :: f 219 :: f 220 :: f 221 :: f 222 :: f 223 :: f 224 :: f 225 :: f 226 :: f 227 :: f 228 :: f 229 :: f 230 :: f 231 :: f 232 :: f 233 :: f 234 :: f 235 :: f 236 :: f 237 :: f 238 :: f 239 :: f 240 :: f 241 :: f 242 :: f 243 :: f 244 :: f 245 :: f 246 :: f 247 :: f 248 :: f 249 :: f 250 :: f 251 :: f 252 :: f 253 :: f 254 :: f 255 :: f 256 :: f 257 :: f 258 :: f 259 :: f 260 :: f 261 :: f 262 :: f 263 :: f 264 :: f 265 :: f 266 :: f 267 :: f 268 :: f 269 :: f 270 :: f 271 :: f 272 :: f 273 :: f 274 :: f 275 :: f 276 :: f 277 :: f 278 :: f 279 :: [] : List Value).toArray, []⟩) (fun a' _ => len - (intOf (a'.tmps.getD 30 undef)).toNat) ?atStart ?round
   case atStart =>
    refine frame_fill ?_ (by kernel_rfl)
    exact ⟨0, Nat.zero_le _, Nat.zero_le _, rfl, H2.out⟩
   case round =>
    intro _ wr hinv
    obtain ⟨f, hrel, ha⟩ := hinv
    subst ha
    obtain ⟨k, hk, hk50, e30, hst⟩ := hrel
    obtain ⟨d, j, t, b, u, st, mp, y, hv, ra, rcap, l, S, e3, e4, hl, hR, hS0, hH⟩ := hst
    rw [e30, e3, e4]
    clear e30 e3 e4
    have j0 : (0 : Int) ≤ k := by omega
    by_cases hlt : k < len
    ·have HLT := Lib.hid hlt
     go_upto_block 1 with fail
     refine wp_cut (fun a' w' => ∃ f : Nat → Value, (k < 50 ∧ ULs w0 (k + 1) [] (f 3) (f 4) w') ∧ a' = ⟨(f 0 :: f 1 :: f 2 :: f 3 :: f 4 :: f 5 :: f 6 :: f 7 :: f 8 :: f 9 :: f 10 :: f 11 :: f 12 :: f 13 :: f 14 :: f 15 :: f 16 :: f 17 :: f 18 :: f 19 :: f 20 :: f 21 :: f 22 :: f 23 :: f 24 :: f 25 :: f 26 :: f 27 :: .slice a len cap :: .int .i64 (len : Int) :: .int .i64 (k : Int) :: f 31 :: f 32 :: f 33 :: f 34 :: f 35 :: f 36 :: f 37 :: f 38 :: f 39 :: f 40 :: f 41 :: f 42 :: f 43 :: f 44 :: f 45 :: f 46 :: f 47 :: f 48 :: f 49 :: f 50 :: f 51 :: f 52 :: f 53 :: f 54 :: f 55 :: f 56 :: f 57 :: f 58 :: f 59 :: f 60 :: f 61 :: f 62 :: f 63 :: f 64 :: f 65 :: f 66 :: f 67 :: f 68 :: f 69 :: f 70 :: f 71 :: f 72 :: f 73 :: f 74 :: f 75 :: f 76 :: f 77 :: f 78 :: f 79 :: f 80 :: f 81 :: f 82 :: f 83 :: f 84 :: f 85 :: f 86 :: f 87 :: f 88 :: f 89 :: f 90 :: f 91 :: f 92 :: f 93 :: f 94 :: f 95 :: f 96 :: f 97 :: f 98 :: f 99 :: f 100 :: f 101 :: f 102 :: f 103 :: f 104 :: f 105 :: f 106 :: f 107 :: f 108 :: f 109 :: f 110 :: f 111 :: f 112 :: f 113 :: f 114 :: f 115 :: f 116 :: f 117 :: f 118 :: f 119 :: f 120 :: f 121 :: f 122 :: f 123 :: f 124 :: f 125 :: f 126 :: f 127 :: f 128 :: f 129 :: f 130 :: f 131 :: f 132 :: f 133 :: f 134 :: f 135 :: f 136 :: f 137 :: f 138 :: f 139 :: f 140 :: f 141 :: f 142 :: f 143 :: f 144 :: f 145 :: f 146 :: f 147 :: f 148 :: f 149 :: f 150 :: f 151 :: f 152 :: f 153 :: f 154 :: f 155 :: f 156 :: f 157 :: f 158 :: f 159 :: f 160 :: f 161 :: f 162 :: f 163 :: f 164 :: f 165 :: f 166 :: f 167 :: f 168 :: f 169 :: f 170 :: f 171 :: f 172 :: f 173 :: f 174 :: f 175 :: f 176 :: f 177 :: f 178 :: f 179 :: f 180 :: f 181 :: f 182 :: f 183 :: f 184 :: f 185 :: f 186 :: f 187 :: f 188 :: f 189 :: f 190 :: f 191 :: f 192 :: f 193 :: f 194 :: f 195 :: f 196 :: f 197 :: f 198 :: f 199 :: f 200 :: f 201 :: f 202 :: f 203 :: f 204 :: f 205 :: f 206 :: f 207 :: f 208 :: f 209 :: f 210 :: f 211 :: f 212 :: f 213 :: f 214 :: f 215 :: f 216 :: f 217 :: f 218 :: f 219 :: f 220 :: f 221 :: f 222 :: f 223 :: f 224 :: f 225 :: f 226 :: f 227 :: f 228 :: f 229 :: f 230 :: f 231 :: f 232 :: f 233 :: f 234 :: f 235 :: f 236 :: f 237 :: f 238 :: f 239 :: f 240 :: f 241 :: f 242 :: f 243 :: f 244 :: f 245 :: f 246 :: f 247 :: f 248 :: f 249 :: f 250 :: f 251 :: f 252 :: f 253 :: f 254 :: f 255 :: f 256 :: f 257 :: f 258 :: f 259 :: f 260 :: f 261 :: f 262 :: f 263 :: f 264 :: f 265 :: f 266 :: f 267 :: f 268 :: f 269 :: f 270 :: f 271 :: f 272 :: f 273 :: f 274 :: f 275 :: f 276 :: f 277 :: f 278 :: f 279 :: [] : List Value).toArray, []⟩) ?rest1 ?first1
     case rest1 =>
      intro _ wc hinv
      obtain ⟨f2, hcut, ha⟩ := hinv
      subst ha
      have HK := Lib.hid hk
      have HREL3 := Lib.hid (show k + 1 ≤ len ∧ k + 1 ≤ 50 from ⟨by have := HLT.out; omega, by have := hcut.1; omega⟩)
      have HC := Lib.hid hcut.2
      clear hk hH hR hS0 hl hcut
      go_wp2_with fail
      refine ⟨?_, ?measure⟩
      ·refine frame_fill ?_ (by kernel_rfl)
       exact ⟨k + 1, HREL3.out.1, HREL3.out.2, rfl, HC.out⟩
      case measure => simp [intOf]; omega
     case first1 =>
     intro _ _ _ _
     obtain ⟨x, o, pv, la, lc, rfl, c0, c1, c2, c3, c4, c5, c6, hl1, hl2, hin, hrd, hn1, hn2, hm1, hm2⟩ := HOPS.out k hlt
     have c0 := cell_keep c0 hH.keeps
     have c1 := cell_keep c1 hH.keeps
     have c2 := cell_keep c2 hH.keeps
     have c3 := cell_keep c3 hH.keeps
     have c4 := cell_keep c4 hH.keeps
     have c5 := cell_keep c5 hH.keeps
     have c6 := cell_keep c6 hH.keeps
     obtain ⟨oK, oI, oR, oP, oN, oM, oL⟩ := o
     simp only at c0 c1 c2 c3 c4 c5 c6 hl1 hin hrd hn1 hn2 hm1 hm2
     obtain ⟨pa, pc, rfl, hpl1, hpl2⟩ := hrd.form
     have j2 : (k : Int) < len := by omega
     have hbx := hH.box (opUObj oK oI oR (.slice pa oP.length pc) oN oM (.slice la oL.length lc))
     have hfa := fair13_calls (k0 := oK) (d0 := oI) (r0 := oR) (n0 := oN) (m0 := oM) (c := lc) (hrd.keep hbx.keeps) (hin.keep hbx.keeps) (Nat.le_trans hl1 hl2)
     have HBX := Lib.hid hbx
     have HFA := Lib.hid hfa
     have HRD := Lib.hid hrd
     have HPL := Lib.hid (And.intro hpl1 hpl2)
     have HN := Lib.hid (And.intro (And.intro hn1 hn2) (And.intro hm1 hm2))
     have HREL := Lib.hid hR
     have HL := Lib.hid hl
     have HS0 := Lib.hid hS0
     clear hH hin hl1 hl2 hrd hbx hfa hk hlt hn1 hn2 hm1 hm2 hR hl hS0 hpl1 hpl2
     by_cases h50 : k = 50
     ·have j3 : (50 : Int) ≤ k := by omega
      have HG := Lib.hid HBX.out.keeps
      clear h50 hk50
      go_wp2_with fail
      refine Met.intro ?_
      go_step
      refine frame_fill ?_ (by kernel_rfl)
      exact HG.out
     ·have j3 : ¬ (50 : Int) ≤ k := by omega
      have HK50 := Lib.hid (by omega : k < 50)
      clear h50 hk50
      go_wp2_with fail
      refine HFA.out.mono ?_
      rintro e w5 ⟨rfl, hk5⟩
      have h5 := HBX.out.keep hk5
      generalize hwb : wr.heap.size = wb at *
      have H5 := Lib.hid h5
      clear HFA HBX hk5 h5 hwb c0 c1 c2 c3 c4 c5 c6
      cases hs : fairU oL oP with
      | false =>
       have HG := Lib.hid H5.out.keeps
       clear hs H5
       go_wp2_with fail
       refine Met.intro ?_
       go_step
       refine frame_fill ?_ (by kernel_rfl)
       exact HG.out
      | true =>
       have HFB := Lib.hid (fairU_true hs).2.1
       clear hs
       obtain ⟨q0, q1, -, -, -, -, -⟩ := opU_at (H5.out.at (bb := wb) (o := opUObj oK oI oR (.slice pa oP.length pc) oN oM (.slice la oL.length lc)) (by simp))
       have hpl : ∀ W', Keeps (fun _ => False) w5 W' → Calls Tryz.prog 26 #[.slice ra l.length rcap, .int .i64 oI] W' (QuietP W' (.int .i64 (placeI l oI))) := fun W' hW => by
        obtain ⟨A, B, hO⟩ := (H5.out.keep hW).own
        exact place13_calls (hO.kin (c := rcap) (in_end (by simp))) (by have := HL.out; have := HK50.out; unfold maxLen; omega) (HREL.out.ok hO (in_end (by simp))) oI
       have HPLC := Lib.hid (hpl w5 (Keeps.refl _ _))
       clear hpl
       go_wp2_with fail
       refine HPLC.out.mono ?_
       rintro e w6 ⟨rfl, hk6⟩
       have q0 := cell_keep q0 hk6
       have q1 := cell_keep q1 hk6
       have H6 := Lib.hid (H5.out.keep hk6)
       clear HPLC H5 hk6
       obtain ⟨pl, hpl⟩ : ∃ z, z = placeI l oI := ⟨_, rfl⟩
       rw [← hpl]
       have HPV := Lib.hid (show (pl = -1) ∨ ∃ (i : Nat) (kp : Kp), hv[i]? = some kp ∧ (kp.id : Int) = oI ∧ pl = (i : Int) from by
        rw [hpl]
        rcases HREL.out.place oI with ⟨e, -⟩ | ⟨i, kp, e1, e2, e3⟩
        ·exact .inl e
        ·exact .inr ⟨i, kp, e1, e2, e3⟩)
       clear hpl
       obtain ⟨-, -, qy⟩ := H6.out.y (y := y) (by simp)
       have HC60 := Lib.hid (show k < 60 by have := HK50.out; omega)
       by_cases e0 : oK = 0
       ·as_aux_lemma =>
         subst e0
         have hst := H6.out.start HC60.out (HGL.out.keep H6.out.keeps)
         unfold abR at hst
         have HST := Lib.hid hst
         clear hst HPV
         go_wp2_with fail
         refine HST.out.mono ?_
         rintro e w7 ⟨id, cd, hv', rfl, hU, hcase⟩
         have HU := Lib.hid hU
         clear HST H6 hU
         rcases hcase with ⟨rfl, n, rfl, rfl⟩ | ⟨rfl, rfl⟩
         ·obtain ⟨a', c', w8, hrun, h8⟩ := HU.out.push (n : Int) (by have := HL.out; have := HK50.out; omega)
          have HRUN := Lib.hid hrun
          have HG := Lib.hid (show ULs w0 (k + 1) [] (.pointer (some ⟨y, 0, none⟩)) (.slice a' (l.length + 1) c') w8 from
           ⟨d, j, t, b, u, st, mp, y, _, a', c', _, S, rfl, by simp, by have := HL.out; simp; omega, HREL.out.push ⟨rfl, rfl, HS0.out, HS0.out⟩, HS0.out, h8.more⟩)
          clear hrun h8 HU
          go_wp2_with (at_builtin; refine wpList_append_run rfl _ _ _ _ rfl rfl rfl HRUN.out ?_)
          refine Met.intro ?_
          go_step
          refine frame_fill ?_ (by kernel_rfl)
          exact ⟨HK50.out, HG.out⟩
         ·have HG := Lib.hid (show ULs w0 (k + 1) [] (.pointer (some ⟨y, 0, none⟩)) (.slice ra l.length rcap) w7 from
           ⟨d, j, t, b, u, st, mp, y, _, ra, rcap, l, S, rfl, rfl, by have := HL.out; omega, HREL.out, HS0.out, HU.out.more⟩)
          clear HU
          go_wp2_with fail
          refine Met.intro ?_
          go_step
          refine frame_fill ?_ (by kernel_rfl)
          exact ⟨HK50.out, HG.out⟩
       have n0 : (oK == 0) = false := by rw [beq_eq_false_iff_ne]; exact e0
       by_cases e1 : oK = 1
       ·as_aux_lemma =>
         subst e1
         clear n0 e0
         rcases HPV.out with rfl | ⟨i, kp, hkp, hid, rfl⟩
         ·have HG := Lib.hid (show ULs w0 (k + 1) [] (.pointer (some ⟨y, 0, none⟩)) (.slice ra l.length rcap) w6 from
           ⟨d, j, t, b, u, st, mp, y, _, ra, rcap, l, S, rfl, rfl, by have := HL.out; omega, HREL.out, HS0.out, H6.out.next.more⟩)
          clear H6 HPV
          go_wp2_with fail
          refine Met.intro ?_
          go_step
          refine frame_fill ?_ (by kernel_rfl)
          exact ⟨HK50.out, HG.out⟩
         obtain ⟨x, hx, hone⟩ := HREL.out.at hkp
         obtain ⟨ya, rfl⟩ := H6.out.rowSome (ra := ra) (rcap := rcap) (l := l) (by simp) hx
         obtain ⟨cap1, cap2⟩ := H6.out.rowCap (ra := some ya) (rcap := rcap) (l := l) (by simp)
         obtain ⟨sa, sc, hs, hs1, hs2⟩ := (H6.out.reads (S := S) (by simp) hone.2.2.1).form
         obtain ⟨ma, mc, hm, hm1, hm2⟩ := (H6.out.reads (S := S) (by simp) hone.2.2.2).form
         obtain ⟨xi, xs, xm, xe⟩ := x
         obtain ⟨id, sure, may, ends⟩ := kp
         obtain ⟨r1, r2, r3, r4⟩ := hone
         dsimp only at r1 r2 r3 r4 hs hm hs1 hm1 hid
         subst hs hm r1 r2 hid
         have HX := Lib.hid hx
         have HKP := Lib.hid hkp
         have HRS := Lib.hid r3
         have HRM := Lib.hid r4
         have hil : i < l.length := (List.getElem?_eq_some_iff.1 hx).1
         have hih : i < hv.length := (List.getElem?_eq_some_iff.1 hkp).1
         have HIL := Lib.hid (And.intro hil hih)
         have HCAP := Lib.hid (And.intro cap1 cap2)
         have i2 : (i : Int) < (l.length : Int) := by omega
         have i3 : (0 : Int) ≤ (i : Int) := by omega
         have i4 : (l.length : Int) ≤ 100 := by have := HL.out; have := HC60.out; omega
         clear hx hkp r3 r4 hil hih cap1 cap2 hs1 hs2 hm1 hm2 HPV
         go_upto_region 19 with fail
         refine wp_region_held_drew (S := (fun W => ULh y st u d wb [.int .i64 1, .int .i64 (id : Int), .string oR, .slice pa oP.length pc, .int .i64 oN, .int .i64 oM, .slice la oL.length lc] W ∧ ULr ya i ⟨(id : Int), .slice sa sure.length sc, .slice ma may.length mc, xe⟩ W)) (by kernel_rfl) (by exact ⟨H6.out.drew.held (by simp) (by simp), H6.out.drew.rowAt (ya := ya) (rcap := rcap) (l := l) (by simp) HX.out⟩) (fun hHeld => ?_)
         have H7 := Lib.hid H6.out.drew
         clear H6
         generalize w6.drew = w7 at *
         refine wpAnyH_take (i := 0) (oi := { dst := some 71, op := _, type := _, pos := _, after := _, guard := _ }) (v := .pointer (some ⟨y, 0, none⟩)) rfl (by kernel_rfl) (by kernel_rfl) (by kernel_rfl) (fun _ _ _ h => h) (Or.inl ⟨by rfl, by intro w hSw; (try dsimp only at hSw); go_simp⟩) hHeld ?_
         try simp only [Act.put, List.setIfInBounds_toArray, List.set_cons_zero, List.set_cons_succ]
         refine wpAnyH_take (i := 1) (oi := { dst := some 72, op := _, type := _, pos := _, after := _, guard := _ }) (v := .pointer (some ⟨y, 0, none⟩)) rfl (by kernel_rfl) (by kernel_rfl) (by kernel_rfl) (fun _ _ _ h => h) (Or.inl ⟨by rfl, by intro w hSw; (try dsimp only at hSw); go_simp⟩) hHeld ?_
         try simp only [Act.put, List.setIfInBounds_toArray, List.set_cons_zero, List.set_cons_succ]
         refine wpAnyH_take (i := 2) (oi := { dst := some 73, op := _, type := _, pos := _, after := _, guard := _ }) (v := .pointer (some ⟨y, 3, none⟩)) rfl (by kernel_rfl) (by kernel_rfl) (by kernel_rfl) (fun _ _ _ h => h) (Or.inl ⟨by rfl, by intro w hSw; (try dsimp only at hSw); go_simp⟩) hHeld ?_
         try simp only [Act.put, List.setIfInBounds_toArray, List.set_cons_zero, List.set_cons_succ]
         refine wpAnyH_take (i := 3) (oi := { dst := some 74, op := _, type := _, pos := _, after := _, guard := _ }) (v := .pointer (some ⟨u, 0, none⟩)) rfl (by kernel_rfl) (by kernel_rfl) (by kernel_rfl) (fun _ _ _ h => h) (Or.inl ⟨by rfl, by intro w hSw; (try dsimp only at hSw); (have q := hSw.1.1.2.2; go_simp)⟩) hHeld ?_
         try simp only [Act.put, List.setIfInBounds_toArray, List.set_cons_zero, List.set_cons_succ]
         refine wpAnyH_take (i := 4) (oi := { dst := some 75, op := _, type := _, pos := _, after := _, guard := _ }) (v := .pointer (some ⟨wb, 1, none⟩)) rfl (by kernel_rfl) (by kernel_rfl) (by kernel_rfl) (fun _ _ _ h => h) (Or.inl ⟨by rfl, by intro w hSw; (try dsimp only at hSw); go_simp⟩) hHeld ?_
         try simp only [Act.put, List.setIfInBounds_toArray, List.set_cons_zero, List.set_cons_succ]
         refine wpAnyH_take (i := 5) (oi := { dst := some 76, op := _, type := _, pos := _, after := _, guard := _ }) (v := .int .i64 (id : Int)) rfl (by kernel_rfl) (by kernel_rfl) (by kernel_rfl) (fun _ _ _ h => h) (Or.inl ⟨by rfl, by intro w hSw; (try dsimp only at hSw); (have q := hSw.1.2 1 _ rfl; simp only [Nat.zero_add] at q; go_simp)⟩) hHeld ?_
         try simp only [Act.put, List.setIfInBounds_toArray, List.set_cons_zero, List.set_cons_succ]
         refine wpAnyH_take (i := 6) (oi := { dst := some 77, op := _, type := _, pos := _, after := _, guard := _ }) (v := .slice (some ya) l.length rcap) rfl (by kernel_rfl) (by kernel_rfl) (by kernel_rfl) (fun _ _ _ h => h) (Or.inl ⟨by rfl, by intro w hSw; (try dsimp only at hSw); go_simp⟩) hHeld ?_
         try simp only [Act.put, List.setIfInBounds_toArray, List.set_cons_zero, List.set_cons_succ]
         refine wpAnyH_take (i := 7) (oi := { dst := some 78, op := _, type := _, pos := _, after := _, guard := _ }) (v := .int .i64 (i : Int)) rfl (by kernel_rfl) (by kernel_rfl) (by kernel_rfl) (fun _ _ _ h => h) (Or.inl ⟨by rfl, by intro w hSw; (try dsimp only at hSw); go_simp⟩) hHeld ?_
         try simp only [Act.put, List.setIfInBounds_toArray, List.set_cons_zero, List.set_cons_succ]
         refine wpAnyH_take (i := 8) (oi := { dst := some 79, op := _, type := _, pos := _, after := _, guard := _ }) (v := .pointer (some (ya.add (i * 4)))) rfl (by kernel_rfl) (by kernel_rfl) (by kernel_rfl) (fun _ _ _ h => h) (Or.inl ⟨by rfl, by intro w hSw; (try dsimp only at hSw); go_simp⟩) hHeld ?_
         try simp only [Act.put, List.setIfInBounds_toArray, List.set_cons_zero, List.set_cons_succ]
         refine wpAnyH_take (i := 9) (oi := { dst := some 80, op := _, type := _, pos := _, after := _, guard := _ }) (v := .pointer (some ⟨(ya.add (i * 4)).block, (ya.add (i * 4)).off + 1, none⟩)) rfl (by kernel_rfl) (by kernel_rfl) (by kernel_rfl) (fun _ _ _ h => h) (Or.inl ⟨by rfl, by intro w hSw; (try dsimp only at hSw); go_simp⟩) hHeld ?_
         try simp only [Act.put, List.setIfInBounds_toArray, List.set_cons_zero, List.set_cons_succ]
         refine wpAnyH_take (i := 10) (oi := { dst := some 81, op := _, type := _, pos := _, after := _, guard := _ }) (v := .slice sa sure.length sc) rfl (by kernel_rfl) (by kernel_rfl) (by kernel_rfl) (fun _ _ _ h => h) (Or.inl ⟨by rfl, by intro w hSw; (try dsimp only at hSw); (have q := hSw.2.2.1; go_simp)⟩) hHeld ?_
         try simp only [Act.put, List.setIfInBounds_toArray, List.set_cons_zero, List.set_cons_succ]
         refine wpAnyH_take (i := 11) (oi := { dst := some 82, op := _, type := _, pos := _, after := _, guard := _ }) (v := .int .i64 (sure.length : Int)) rfl (by kernel_rfl) (by kernel_rfl) (by kernel_rfl) (fun _ _ _ h => h) (Or.inl ⟨by rfl, by intro w hSw; (try dsimp only at hSw); go_simp⟩) hHeld ?_
         try simp only [Act.put, List.setIfInBounds_toArray, List.set_cons_zero, List.set_cons_succ]
         refine wpAnyH_take (i := 12) (oi := { dst := some 83, op := _, type := _, pos := _, after := _, guard := _ }) (v := .pointer (some ⟨wb, 3, none⟩)) rfl (by kernel_rfl) (by kernel_rfl) (by kernel_rfl) (fun _ _ _ h => h) (Or.inl ⟨by rfl, by intro w hSw; (try dsimp only at hSw); go_simp⟩) hHeld ?_
         try simp only [Act.put, List.setIfInBounds_toArray, List.set_cons_zero, List.set_cons_succ]
         refine wpAnyH_take (i := 13) (oi := { dst := some 84, op := _, type := _, pos := _, after := _, guard := _ }) (v := .slice pa oP.length pc) rfl (by kernel_rfl) (by kernel_rfl) (by kernel_rfl) (fun _ _ _ h => h) (Or.inl ⟨by rfl, by intro w hSw; (try dsimp only at hSw); (have q := hSw.1.2 3 _ rfl; simp only [Nat.zero_add] at q; go_simp)⟩) hHeld ?_
         try simp only [Act.put, List.setIfInBounds_toArray, List.set_cons_zero, List.set_cons_succ]
         refine wpAnyH_ready (rs := [14]) (by kernel_rfl) (by simp) ?_
         refine AllReadyH.cons (o := { dst := some 85, op := _, type := _, pos := _, after := _, guard := _ }) rfl (fun K hK => ?_) AllReadyH.nil
         refine step_wanted' rfl ?_
         go_simp
         go_at_call 10
         refine (H7.out.patch HC60.out HKP.out HFB.out HRD.out).mono ?_
         rintro e w8 ⟨cd, hv', rfl, h8, hcase⟩
         have H8 := Lib.hid h8
         have HCA := Lib.hid hcase
         clear h8 hcase
         refine hK.out _ _ (by exact ⟨H8.out.held (by simp) (by simp), H8.out.rowAt (ya := ya) (rcap := rcap) (l := l) (by simp) HX.out⟩) (fun hHeld1 => ?_)
         clear hK K
         try simp only [Act.put, List.setIfInBounds_toArray, List.set_cons_zero, List.set_cons_succ]
         refine wpAnyH_take (i := 15) (oi := { dst := some 10, op := _, type := _, pos := _, after := _, guard := _ }) (v := .int .i64 cd) rfl (by kernel_rfl) (by kernel_rfl) (by kernel_rfl) (fun _ _ _ h => h) (Or.inl ⟨by rfl, by intro w hSw; (try dsimp only at hSw); go_simp⟩) hHeld1 ?_
         try simp only [Act.put, List.setIfInBounds_toArray, List.set_cons_zero, List.set_cons_succ]
         refine wpAnyH_done (by kernel_rfl) ?_ _
         clear hHeld hHeld1
         have hsl0 := H7.out.sureLen HC60.out HKP.out
         have HSL0 := Lib.hid hsl0
         clear H7 hsl0
         rcases HCA.out with ⟨rfl, rfl⟩ | ⟨rfl, rfl⟩ | ⟨rfl, hends, rfl⟩
         ·clear HCA
          go_upto_region 21 with fail
          have HTW := Lib.hid (show ∀ W, Reads W (.slice sa sure.length sc) sure → Calls Tryz.prog 27 #[.slice sa sure.length sc] W (OPost W sure) from fun W hW => twin_calls hW (by have := HSL0.out; dsimp only at this; omega))
          refine wp_region_held_drew (S := ULh y st u d wb [.int .i64 1, .int .i64 (id : Int), .string oR, .slice pa oP.length pc, .int .i64 oN, .int .i64 oM, .slice la oL.length lc]) (by kernel_rfl) (by exact H8.out.drew.held (by simp) (by simp)) (fun hHeld => ?_)
          have H9 := Lib.hid H8.out.drew
          clear H8
          generalize w8.drew = w9 at *
          obtain ⟨-, e1, -, -⟩ := H9.out.rowAt (ya := ya) (rcap := rcap) (l := l) (by simp) HX.out
          dsimp only at e1
          refine wpAnyH_take (i := 0) (oi := { dst := some 88, op := _, type := _, pos := _, after := _, guard := _ }) (v := .slice (some ya) l.length rcap) rfl (by kernel_rfl) (by kernel_rfl) (by kernel_rfl) (fun _ _ _ h => h) (Or.inl ⟨by rfl, by intro w hSw; (try dsimp only at hSw); go_simp⟩) hHeld ?_
          try simp only [Act.put, List.setIfInBounds_toArray, List.set_cons_zero, List.set_cons_succ]
          refine wpAnyH_take (i := 1) (oi := { dst := some 89, op := _, type := _, pos := _, after := _, guard := _ }) (v := .int .i64 (i : Int)) rfl (by kernel_rfl) (by kernel_rfl) (by kernel_rfl) (fun _ _ _ h => h) (Or.inl ⟨by rfl, by intro w hSw; (try dsimp only at hSw); go_simp⟩) hHeld ?_
          try simp only [Act.put, List.setIfInBounds_toArray, List.set_cons_zero, List.set_cons_succ]
          refine wpAnyH_take (i := 2) (oi := { dst := some 90, op := _, type := _, pos := _, after := _, guard := _ }) (v := .slice (some ya) l.length rcap) rfl (by kernel_rfl) (by kernel_rfl) (by kernel_rfl) (fun _ _ _ h => h) (Or.inl ⟨by rfl, by intro w hSw; (try dsimp only at hSw); go_simp⟩) hHeld ?_
          try simp only [Act.put, List.setIfInBounds_toArray, List.set_cons_zero, List.set_cons_succ]
          refine wpAnyH_take (i := 3) (oi := { dst := some 91, op := _, type := _, pos := _, after := _, guard := _ }) (v := .int .i64 (i : Int)) rfl (by kernel_rfl) (by kernel_rfl) (by kernel_rfl) (fun _ _ _ h => h) (Or.inl ⟨by rfl, by intro w hSw; (try dsimp only at hSw); go_simp⟩) hHeld ?_
          try simp only [Act.put, List.setIfInBounds_toArray, List.set_cons_zero, List.set_cons_succ]
          refine wpAnyH_take (i := 4) (oi := { dst := some 92, op := _, type := _, pos := _, after := _, guard := _ }) (v := .pointer (some (ya.add (i * 4)))) rfl (by kernel_rfl) (by kernel_rfl) (by kernel_rfl) (fun _ _ _ h => h) (Or.inl ⟨by rfl, by intro w hSw; (try dsimp only at hSw); go_simp⟩) hHeld ?_
          try simp only [Act.put, List.setIfInBounds_toArray, List.set_cons_zero, List.set_cons_succ]
          refine wpAnyH_take (i := 5) (oi := { dst := some 93, op := _, type := _, pos := _, after := _, guard := _ }) (v := .pointer (some ⟨(ya.add (i * 4)).block, (ya.add (i * 4)).off + 1, none⟩)) rfl (by kernel_rfl) (by kernel_rfl) (by kernel_rfl) (fun _ _ _ h => h) (Or.inl ⟨by rfl, by intro w hSw; (try dsimp only at hSw); go_simp⟩) hHeld ?_
          try simp only [Act.put, List.setIfInBounds_toArray, List.set_cons_zero, List.set_cons_succ]
          refine wpAnyH_take (i := 8) (oi := { dst := some 96, op := _, type := _, pos := _, after := _, guard := _ }) (v := .pointer (some ⟨wb, 3, none⟩)) rfl (by kernel_rfl) (by kernel_rfl) (by kernel_rfl) (fun _ _ _ h => h) (Or.inl ⟨by rfl, by intro w hSw; (try dsimp only at hSw); go_simp⟩) hHeld ?_
          try simp only [Act.put, List.setIfInBounds_toArray, List.set_cons_zero, List.set_cons_succ]
          refine wpAnyH_take (i := 9) (oi := { dst := some 97, op := _, type := _, pos := _, after := _, guard := _ }) (v := .slice pa oP.length pc) rfl (by kernel_rfl) (by kernel_rfl) (by kernel_rfl) (fun _ _ _ h => h) (Or.inl ⟨by rfl, by intro w hSw; (try dsimp only at hSw); (have q := hSw.2 3 _ rfl; simp only [Nat.zero_add] at q; go_simp)⟩) hHeld ?_
          try simp only [Act.put, List.setIfInBounds_toArray, List.set_cons_zero, List.set_cons_succ]
          refine wpAnyH_ready (rs := [6]) (by kernel_rfl) (by simp) ?_
          refine AllReadyH.cons (o := { dst := some 94, op := _, type := _, pos := _, after := _, guard := _ }) rfl (fun K hK => ?_) AllReadyH.nil
          refine step_wanted' rfl ?_
          go_simp
          refine hK.out _ _ (by exact hHeld) (fun hHeld1 => ?_)
          clear hK K
          try simp only [Act.put, List.setIfInBounds_toArray, List.set_cons_zero, List.set_cons_succ]
          refine wpAnyH_ready (rs := [7]) (by kernel_rfl) (by simp) ?_
          refine AllReadyH.cons (o := { dst := some 95, op := _, type := _, pos := _, after := _, guard := _ }) rfl (fun K hK => ?_) AllReadyH.nil
          refine step_wanted' rfl ?_
          go_simp
          go_at_call 27
          refine (HTW.out _ (H9.out.reads (S := S) (by simp) HRS.out)).mono ?_
          rintro e w10 ⟨tv, rfl, ho10, hk10⟩
          have H10 := Lib.hid (H9.out.bytes ho10 hk10)
          clear ho10 hk10 e1
          obtain ⟨ta, tc, rfl, -, -⟩ := H10.out.bytesForm
          refine hK.out _ _ (by exact H10.out.held (by simp) (by simp)) (fun hHeld2 => ?_)
          clear hK K
          try simp only [Act.put, List.setIfInBounds_toArray, List.set_cons_zero, List.set_cons_succ]
          refine wpAnyH_ready (rs := [10]) (by kernel_rfl) (by simp) ?_
          refine AllReadyH.cons (o := { dst := some 98, op := _, type := _, pos := _, after := _, guard := _ }) rfl (fun K hK => ?_) AllReadyH.nil
          obtain ⟨nv, w11, hrun, h11⟩ := H10.out.grow (HRD.out.keep H10.out.keeps) (by have := HSL0.out; have := HFB.out; dsimp only at *; omega)
          obtain ⟨na, nc, rfl, -, -⟩ := h11.bytesForm
          generalize (sure ++ oP).length = nl at hrun h11
          have HRUN := Lib.hid hrun
          have H11 := Lib.hid h11.known
          clear hrun h11
          refine step_append_run rfl _ _ _ _ rfl rfl rfl HRUN.out ?_
          refine hK.out _ _ (by exact H11.out.held (by simp) (by simp)) (fun hHeld3 => ?_)
          clear hK K
          try simp only [Act.put, List.setIfInBounds_toArray, List.set_cons_zero, List.set_cons_succ]
          refine wpAnyH_take (i := 11) (oi := { dst := some 99, op := _, type := _, pos := _, after := _, guard := _ }) (v := .pointer (some (ya.add (i * 4)))) rfl (by kernel_rfl) (by kernel_rfl) (by kernel_rfl) (fun _ _ _ h => h) (Or.inl ⟨by rfl, by intro w hSw; (try dsimp only at hSw); go_simp⟩) hHeld3 ?_
          try simp only [Act.put, List.setIfInBounds_toArray, List.set_cons_zero, List.set_cons_succ]
          refine wpAnyH_take (i := 12) (oi := { dst := some 100, op := _, type := _, pos := _, after := _, guard := _ }) (v := .pointer (some ⟨(ya.add (i * 4)).block, (ya.add (i * 4)).off + 1, none⟩)) rfl (by kernel_rfl) (by kernel_rfl) (by kernel_rfl) (fun _ _ _ h => h) (Or.inl ⟨by rfl, by intro w hSw; (try dsimp only at hSw); go_simp⟩) hHeld3 ?_
          try simp only [Act.put, List.setIfInBounds_toArray, List.set_cons_zero, List.set_cons_succ]
          have f1 := H11.out.rowFree (i := i) (rcap := rcap) (l := l) (ya := ya) (by simp) ((ya.add (i * 4)).off + 1)
          obtain ⟨-, e1, -, -⟩ := H11.out.rowAt (ya := ya) (rcap := rcap) (l := l) (by simp) HX.out
          dsimp only at e1
          have H12 := Lib.hid (H11.out.setAt HX.out 1 (by omega) (.slice na nl nc) ⟨(id : Int), .slice na nl nc, .slice ma may.length mc, xe⟩ rfl)
          refine wpAnyH_ready (rs := [13]) (by kernel_rfl) (by simp) ?_
          refine AllReadyH.cons (o := { dst := none, op := _, type := _, pos := _, after := _, guard := _ }) rfl (fun K hK => ?_) AllReadyH.nil
          refine step_wanted' rfl ?_
          go_simp
          refine hK.out _ _ (by exact H12.out.held (bx := wb) (y := y) (by simp) (by simp)) (fun hHeld4 => ?_)
          clear hK K
          try simp only [Act.put, List.setIfInBounds_toArray, List.set_cons_zero, List.set_cons_succ]
          refine wpAnyH_done (by kernel_rfl) ?_ _
          clear hHeld hHeld1 hHeld2 hHeld3 hHeld4 e1 f1 H9 H10 H11 HTW HRUN
          generalize w11.setCell ⟨(ya.add (i * 4)).block, (ya.add (i * 4)).off + 1, none⟩ (.slice na nl nc) = w12 at *
          have hx2 : (l.set i (⟨(id : Int), .slice na nl nc, .slice ma may.length mc, xe⟩ : KV))[i]? = some ⟨(id : Int), .slice na nl nc, .slice ma may.length mc, xe⟩ := by
           rw [List.getElem?_set_self HIL.out.1]
          obtain ⟨-, -, c2, -⟩ := H12.out.rowAt (ya := ya) (rcap := rcap) (by simp) hx2
          have f2 := H12.out.rowFree (i := i) (rcap := rcap) (l := l.set i (⟨(id : Int), .slice na nl nc, .slice ma may.length mc, xe⟩ : KV)) (ya := ya) (by simp) ((ya.add (i * 4)).off + 2)
          dsimp only at c2
          have HG := Lib.hid (show ULs w0 (k + 1) [] (.pointer (some ⟨y, 0, none⟩)) (.slice (some ya) l.length rcap) (w12.setCell ⟨(ya.add (i * 4)).block, (ya.add (i * 4)).off + 2, none⟩ (.slice none 0 0)) from by
           have h13 := H12.out.setAt hx2 2 (by omega) (.slice none 0 0) ⟨(id : Int), .slice na nl nc, .slice none 0 0, xe⟩ rfl
           rw [List.set_set] at h13
           refine ⟨d, j, t, b, u, st, mp, y, _, some ya, rcap, l.set i ⟨(id : Int), .slice na nl nc, .slice none 0 0, xe⟩, _, rfl, by rw [List.length_set], by rw [List.length_set]; have := HL.out; omega, (HREL.out.mono (fun p hp => List.mem_cons_of_mem _ hp)).set i ⟨rfl, rfl, List.mem_cons_self .., List.mem_cons_of_mem _ HS0.out⟩, List.mem_cons_of_mem _ HS0.out, h13.more⟩)
          clear H12 hx2
          go_wp2_with fail
          refine Met.intro ?_
          go_step
          refine frame_fill ?_ (by kernel_rfl)
          exact ⟨HK50.out, HG.out⟩
         ·clear HCA
          obtain ⟨-, -, c2, c3⟩ := H8.out.rowAt (ya := ya) (rcap := rcap) (l := l) (by simp) HX.out
          obtain ⟨q0, q1, -, q3, -, -, -⟩ := opU_at (H8.out.at (bb := wb) (o := opUObj 1 (id : Int) oR (.slice pa oP.length pc) oN oM (.slice la oL.length lc)) (by simp))
          have f2 := H8.out.rowFree (i := i) (rcap := rcap) (l := l) (ya := ya) (by simp) ((ya.add (i * 4)).off + 2)
          dsimp only at c2 c3
          by_cases hmy : may = []
          ·subst hmy
           have HG := Lib.hid (show ULs w0 (k + 1) [] (.pointer (some ⟨y, 0, none⟩)) (.slice (some ya) l.length rcap) (w8.setCell ⟨(ya.add (i * 4)).block, (ya.add (i * 4)).off + 2, none⟩ (.slice pa oP.length pc)) from by
            have h13 := (H8.out.elder HRD.out).setAt HX.out 2 (by omega) (.slice pa oP.length pc) ⟨(id : Int), .slice sa sure.length sc, .slice pa oP.length pc, xe⟩ rfl
            refine ⟨d, j, t, b, u, st, mp, y, _, some ya, rcap, l.set i ⟨(id : Int), .slice sa sure.length sc, .slice pa oP.length pc, xe⟩, _, rfl, by rw [List.length_set], by rw [List.length_set]; have := HL.out; omega, (HREL.out.mono (fun p hp => List.mem_cons_of_mem _ hp)).set i ⟨rfl, rfl, List.mem_cons_of_mem _ HRS.out, by simp⟩, List.mem_cons_of_mem _ HS0.out, h13.more⟩)
           clear H8
           cases xe
           ·go_wp2_with fail
            refine Met.intro ?_
            go_step
            refine frame_fill ?_ (by kernel_rfl)
            exact ⟨HK50.out, HG.out⟩
           ·go_wp2_with fail
            refine Met.intro ?_
            go_step
            refine frame_fill ?_ (by kernel_rfl)
            exact ⟨HK50.out, HG.out⟩
          ·have hml : ¬ (may.length : Int) = 0 := by
            have := List.length_pos_iff.2 hmy
            omega
           have HG := Lib.hid (show ULs w0 (k + 1) [] (.pointer (some ⟨y, 0, none⟩)) (.slice (some ya) l.length rcap) w8 from by
            refine ⟨d, j, t, b, u, st, mp, y, _, some ya, rcap, l, S, rfl, rfl, by have := HL.out; omega, ?_, HS0.out, H8.out.more⟩
            dsimp only
            rw [if_neg hmy]
            have := HREL.out.set i (k := ⟨id, sure, may, xe⟩) (x := ⟨(id : Int), .slice sa sure.length sc, .slice ma may.length mc, xe⟩) ⟨rfl, rfl, HRS.out, HRM.out⟩
            rw [set_same HX.out] at this
            exact this)
           have hmz : ¬ may.length = 0 := by omega
           clear H8 hmy
           cases xe
           ·go_wp2_with fail
            refine Met.intro ?_
            go_step
            refine frame_fill ?_ (by kernel_rfl)
            exact ⟨HK50.out, HG.out⟩
           ·go_wp2_with fail
            refine Met.intro ?_
            go_step
            refine frame_fill ?_ (by kernel_rfl)
            exact ⟨HK50.out, HG.out⟩
         ·clear HCA
          obtain ⟨-, -, -, c3⟩ := H8.out.rowAt (ya := ya) (rcap := rcap) (l := l) (by simp) HX.out
          dsimp only at c3 hends
          subst hends
          have HG := Lib.hid (show ULs w0 (k + 1) [] (.pointer (some ⟨y, 0, none⟩)) (.slice (some ya) l.length rcap) w8 from
           ⟨d, j, t, b, u, st, mp, y, _, some ya, rcap, l, S, rfl, rfl, by have := HL.out; omega, HREL.out, HS0.out, H8.out.more⟩)
          clear H8
          go_wp2_with fail
          refine Met.intro ?_
          go_step
          refine frame_fill ?_ (by kernel_rfl)
          exact ⟨HK50.out, HG.out⟩
       have n1 : (oK == 1) = false := by rw [beq_eq_false_iff_ne]; exact e1
       by_cases e2 : oK = 2
       ·as_aux_lemma =>
         subst e2
         clear n0 n1 e0 e1
         rcases HPV.out with rfl | ⟨i, kp, hkp, hid, rfl⟩
         ·have HG := Lib.hid (show ULs w0 (k + 1) [] (.pointer (some ⟨y, 0, none⟩)) (.slice ra l.length rcap) w6 from
           ⟨d, j, t, b, u, st, mp, y, _, ra, rcap, l, S, rfl, rfl, by have := HL.out; omega, HREL.out, HS0.out, H6.out.next.more⟩)
          clear H6 HPV
          go_wp2_with fail
          refine Met.intro ?_
          go_step
          refine frame_fill ?_ (by kernel_rfl)
          exact ⟨HK50.out, HG.out⟩
         obtain ⟨x, hx, hone⟩ := HREL.out.at hkp
         obtain ⟨ya, rfl⟩ := H6.out.rowSome (ra := ra) (rcap := rcap) (l := l) (by simp) hx
         obtain ⟨cap1, cap2⟩ := H6.out.rowCap (ra := some ya) (rcap := rcap) (l := l) (by simp)
         obtain ⟨sa, sc, hs, hs1, hs2⟩ := (H6.out.reads (S := S) (by simp) hone.2.2.1).form
         obtain ⟨ma, mc, hm, hm1, hm2⟩ := (H6.out.reads (S := S) (by simp) hone.2.2.2).form
         obtain ⟨xi, xs, xm, xe⟩ := x
         obtain ⟨id, sure, may, ends⟩ := kp
         obtain ⟨r1, r2, r3, r4⟩ := hone
         dsimp only at r1 r2 r3 r4 hs hm hs1 hm1 hid
         subst hs hm r1 r2 hid
         have HX := Lib.hid hx
         have HKP := Lib.hid hkp
         have HRS := Lib.hid r3
         have HRM := Lib.hid r4
         have hil : i < l.length := (List.getElem?_eq_some_iff.1 hx).1
         have hih : i < hv.length := (List.getElem?_eq_some_iff.1 hkp).1
         have HIL := Lib.hid (And.intro hil hih)
         have HCAP := Lib.hid (And.intro cap1 cap2)
         have i2 : (i : Int) < (l.length : Int) := by omega
         have i3 : (0 : Int) ≤ (i : Int) := by omega
         have i4 : (l.length : Int) ≤ 100 := by have := HL.out; have := HC60.out; omega
         clear hx hkp r3 r4 hil hih cap1 cap2 hs1 hs2 hm1 hm2 HPV
         have hsl0 := H6.out.sureLen HC60.out HKP.out
         have HSUM := Lib.hid (show ∀ W, Reads W (.slice sa sure.length sc) sure → Calls Tryz.prog 11 #[.slice sa sure.length sc] W (QuietP W (.agg ((sumOf sure).map u8v).toArray)) from fun W hW => sum_calls hW (by dsimp only at hsl0; omega))
         clear hsl0
         go_upto_region 34 with fail
         refine wp_region_held_drew (S := (fun W => ULh y st u d wb [.int .i64 2, .int .i64 (id : Int), .string oR, .slice pa oP.length pc, .int .i64 oN, .int .i64 oM, .slice la oL.length lc] W ∧ ULr ya i ⟨(id : Int), .slice sa sure.length sc, .slice ma may.length mc, xe⟩ W)) (by kernel_rfl) (by exact ⟨H6.out.drew.held (by simp) (by simp), H6.out.drew.rowAt (ya := ya) (rcap := rcap) (l := l) (by simp) HX.out⟩) (fun hHeld => ?_)
         have H7 := Lib.hid H6.out.drew
         clear H6
         generalize w6.drew = w7 at *
         refine wpAnyH_take (i := 0) (oi := { dst := some 144, op := _, type := _, pos := _, after := _, guard := _ }) (v := .pointer (some ⟨y, 0, none⟩)) rfl (by kernel_rfl) (by kernel_rfl) (by kernel_rfl) (fun _ _ _ h => h) (Or.inl ⟨by rfl, by intro w hSw; (try dsimp only at hSw); go_simp⟩) hHeld ?_
         try simp only [Act.put, List.setIfInBounds_toArray, List.set_cons_zero, List.set_cons_succ]
         refine wpAnyH_take (i := 1) (oi := { dst := some 145, op := _, type := _, pos := _, after := _, guard := _ }) (v := .pointer (some ⟨y, 0, none⟩)) rfl (by kernel_rfl) (by kernel_rfl) (by kernel_rfl) (fun _ _ _ h => h) (Or.inl ⟨by rfl, by intro w hSw; (try dsimp only at hSw); go_simp⟩) hHeld ?_
         try simp only [Act.put, List.setIfInBounds_toArray, List.set_cons_zero, List.set_cons_succ]
         refine wpAnyH_take (i := 2) (oi := { dst := some 146, op := _, type := _, pos := _, after := _, guard := _ }) (v := .pointer (some ⟨y, 3, none⟩)) rfl (by kernel_rfl) (by kernel_rfl) (by kernel_rfl) (fun _ _ _ h => h) (Or.inl ⟨by rfl, by intro w hSw; (try dsimp only at hSw); go_simp⟩) hHeld ?_
         try simp only [Act.put, List.setIfInBounds_toArray, List.set_cons_zero, List.set_cons_succ]
         refine wpAnyH_take (i := 3) (oi := { dst := some 147, op := _, type := _, pos := _, after := _, guard := _ }) (v := .pointer (some ⟨u, 0, none⟩)) rfl (by kernel_rfl) (by kernel_rfl) (by kernel_rfl) (fun _ _ _ h => h) (Or.inl ⟨by rfl, by intro w hSw; (try dsimp only at hSw); (have q := hSw.1.1.2.2; go_simp)⟩) hHeld ?_
         try simp only [Act.put, List.setIfInBounds_toArray, List.set_cons_zero, List.set_cons_succ]
         refine wpAnyH_take (i := 4) (oi := { dst := some 148, op := _, type := _, pos := _, after := _, guard := _ }) (v := .pointer (some ⟨wb, 1, none⟩)) rfl (by kernel_rfl) (by kernel_rfl) (by kernel_rfl) (fun _ _ _ h => h) (Or.inl ⟨by rfl, by intro w hSw; (try dsimp only at hSw); go_simp⟩) hHeld ?_
         try simp only [Act.put, List.setIfInBounds_toArray, List.set_cons_zero, List.set_cons_succ]
         refine wpAnyH_take (i := 5) (oi := { dst := some 149, op := _, type := _, pos := _, after := _, guard := _ }) (v := .int .i64 (id : Int)) rfl (by kernel_rfl) (by kernel_rfl) (by kernel_rfl) (fun _ _ _ h => h) (Or.inl ⟨by rfl, by intro w hSw; (try dsimp only at hSw); (have q := hSw.1.2 1 _ rfl; simp only [Nat.zero_add] at q; go_simp)⟩) hHeld ?_
         try simp only [Act.put, List.setIfInBounds_toArray, List.set_cons_zero, List.set_cons_succ]
         refine wpAnyH_take (i := 6) (oi := { dst := some 150, op := _, type := _, pos := _, after := _, guard := _ }) (v := .slice (some ya) l.length rcap) rfl (by kernel_rfl) (by kernel_rfl) (by kernel_rfl) (fun _ _ _ h => h) (Or.inl ⟨by rfl, by intro w hSw; (try dsimp only at hSw); go_simp⟩) hHeld ?_
         try simp only [Act.put, List.setIfInBounds_toArray, List.set_cons_zero, List.set_cons_succ]
         refine wpAnyH_take (i := 7) (oi := { dst := some 151, op := _, type := _, pos := _, after := _, guard := _ }) (v := .int .i64 (i : Int)) rfl (by kernel_rfl) (by kernel_rfl) (by kernel_rfl) (fun _ _ _ h => h) (Or.inl ⟨by rfl, by intro w hSw; (try dsimp only at hSw); go_simp⟩) hHeld ?_
         try simp only [Act.put, List.setIfInBounds_toArray, List.set_cons_zero, List.set_cons_succ]
         refine wpAnyH_take (i := 8) (oi := { dst := some 152, op := _, type := _, pos := _, after := _, guard := _ }) (v := .pointer (some (ya.add (i * 4)))) rfl (by kernel_rfl) (by kernel_rfl) (by kernel_rfl) (fun _ _ _ h => h) (Or.inl ⟨by rfl, by intro w hSw; (try dsimp only at hSw); go_simp⟩) hHeld ?_
         try simp only [Act.put, List.setIfInBounds_toArray, List.set_cons_zero, List.set_cons_succ]
         refine wpAnyH_take (i := 9) (oi := { dst := some 153, op := _, type := _, pos := _, after := _, guard := _ }) (v := .pointer (some ⟨(ya.add (i * 4)).block, (ya.add (i * 4)).off + 1, none⟩)) rfl (by kernel_rfl) (by kernel_rfl) (by kernel_rfl) (fun _ _ _ h => h) (Or.inl ⟨by rfl, by intro w hSw; (try dsimp only at hSw); go_simp⟩) hHeld ?_
         try simp only [Act.put, List.setIfInBounds_toArray, List.set_cons_zero, List.set_cons_succ]
         refine wpAnyH_take (i := 10) (oi := { dst := some 154, op := _, type := _, pos := _, after := _, guard := _ }) (v := .slice sa sure.length sc) rfl (by kernel_rfl) (by kernel_rfl) (by kernel_rfl) (fun _ _ _ h => h) (Or.inl ⟨by rfl, by intro w hSw; (try dsimp only at hSw); (have q := hSw.2.2.1; go_simp)⟩) hHeld ?_
         try simp only [Act.put, List.setIfInBounds_toArray, List.set_cons_zero, List.set_cons_succ]
         refine wpAnyH_ready (rs := [11]) (by kernel_rfl) (by simp) ?_
         refine AllReadyH.cons (o := { dst := some 155, op := _, type := _, pos := _, after := _, guard := _ }) rfl (fun K hK => ?_) AllReadyH.nil
         refine step_wanted' rfl ?_
         go_simp
         go_at_call 11
         refine (HSUM.out _ (H7.out.reads (S := S) (by simp) HRS.out)).mono ?_
         rintro e w8 ⟨rfl, hk8⟩
         have H8 := Lib.hid (H7.out.keep hk8)
         clear hk8
         refine hK.out _ _ (by exact ⟨H8.out.held (by simp) (by simp), H8.out.rowAt (ya := ya) (rcap := rcap) (l := l) (by simp) HX.out⟩) (fun hHeld1 => ?_)
         clear hK K
         try simp only [Act.put, List.setIfInBounds_toArray, List.set_cons_zero, List.set_cons_succ]
         refine wpAnyH_ready (rs := [12]) (by kernel_rfl) (by simp) ?_
         refine AllReadyH.cons (o := { dst := some 156, op := _, type := _, pos := _, after := _, guard := _ }) rfl (fun K hK => ?_) AllReadyH.nil
         refine step_wanted' rfl ?_
         go_simp
         go_at_call 12
         refine (H8.out.finish HC60.out HKP.out).mono ?_
         rintro e w9 ⟨cd, hv', rfl, hcase⟩
         have HCA := Lib.hid hcase
         obtain ⟨P9, H9⟩ : ∃ P9 : TM → Prop, UHold w0 d j t b u st mp [rObj w0.heap.size wb (opUObj 2 (id : Int) oR (.slice pa oP.length pc) oN oM (.slice la oL.length lc)), rKRow w0.heap.size (.slice (some ya) l.length rcap) l.length (kvs l), rRds w0.heap.size S, rObj w0.heap.size y (yObj d st t u)] P9 (k + 1) hv' w9 := by rcases hcase with ⟨-, -, h⟩ | ⟨-, h, -⟩ <;> exact ⟨_, h⟩
         clear hcase
         refine hK.out _ _ (by exact ⟨H9.held (by simp) (by simp), H9.rowAt (ya := ya) (rcap := rcap) (l := l) (by simp) HX.out⟩) (fun hHeld2 => ?_)
         clear hK K
         try simp only [Act.put, List.setIfInBounds_toArray, List.set_cons_zero, List.set_cons_succ]
         refine wpAnyH_take (i := 13) (oi := { dst := some 11, op := _, type := _, pos := _, after := _, guard := _ }) (v := .int .i64 cd) rfl (by kernel_rfl) (by kernel_rfl) (by kernel_rfl) (fun _ _ _ h => h) (Or.inl ⟨by rfl, by intro w hSw; (try dsimp only at hSw); go_simp⟩) hHeld2 ?_
         try simp only [Act.put, List.setIfInBounds_toArray, List.set_cons_zero, List.set_cons_succ]
         refine wpAnyH_done (by kernel_rfl) ?_ _
         clear hHeld hHeld1 hHeld2 H7 H8 H9
         rcases HCA.out with ⟨rfl, rfl, h9⟩ | ⟨hcd, h9, hcase⟩
         ·have H9 := Lib.hid h9
          clear HCA h9
          go_upto_region 35 with fail
          refine wp_region_held_drew (S := (fun W => ULh y st u d wb [.int .i64 2, .int .i64 (id : Int), .string oR, .slice pa oP.length pc, .int .i64 oN, .int .i64 oM, .slice la oL.length lc] W ∧ ULr ya i ⟨(id : Int), .slice sa sure.length sc, .slice ma may.length mc, xe⟩ W)) (by kernel_rfl) (by exact ⟨H9.out.drew.held (by simp) (by simp), H9.out.drew.rowAt (ya := ya) (rcap := rcap) (l := l) (by simp) HX.out⟩) (fun hHeld => ?_)
          have H10 := Lib.hid H9.out.drew
          clear H9
          generalize w9.drew = w10 at *
          refine wpAnyH_take (i := 0) (oi := { dst := some 157, op := _, type := _, pos := _, after := _, guard := _ }) (v := .int .i64 0) rfl (by kernel_rfl) (by kernel_rfl) (by kernel_rfl) (fun _ _ _ h => h) (Or.inl ⟨by rfl, by intro w hSw; (try dsimp only at hSw); go_simp⟩) hHeld ?_
          try simp only [Act.put, List.setIfInBounds_toArray, List.set_cons_zero, List.set_cons_succ]
          refine wpAnyH_take (i := 1) (oi := { dst := some 158, op := _, type := _, pos := _, after := _, guard := _ }) (v := .bool true) rfl (by kernel_rfl) (by kernel_rfl) (by kernel_rfl) (fun _ _ _ h => h) (Or.inl ⟨by rfl, by intro w hSw; (try dsimp only at hSw); go_simp⟩) hHeld ?_
          try simp only [Act.put, List.setIfInBounds_toArray, List.set_cons_zero, List.set_cons_succ]
          refine wpAnyH_take (i := 2) (oi := { dst := some 159, op := _, type := _, pos := _, after := _, guard := _ }) (v := .bool true) rfl (by kernel_rfl) (by kernel_rfl) (by kernel_rfl) (fun _ _ _ h => h) (Or.inl ⟨by rfl, by intro w hSw; (try dsimp only at hSw); go_simp⟩) hHeld ?_
          try simp only [Act.put, List.setIfInBounds_toArray, List.set_cons_zero, List.set_cons_succ]
          refine wpAnyH_take (i := 3) (oi := { dst := some 160, op := _, type := _, pos := _, after := _, guard := _ }) (v := .pointer (some ⟨y, 0, none⟩)) rfl (by kernel_rfl) (by kernel_rfl) (by kernel_rfl) (fun _ _ _ h => h) (Or.inl ⟨by rfl, by intro w hSw; (try dsimp only at hSw); go_simp⟩) hHeld ?_
          try simp only [Act.put, List.setIfInBounds_toArray, List.set_cons_zero, List.set_cons_succ]
          refine wpAnyH_take (i := 4) (oi := { dst := some 161, op := _, type := _, pos := _, after := _, guard := _ }) (v := .pointer (some ⟨y, 0, none⟩)) rfl (by kernel_rfl) (by kernel_rfl) (by kernel_rfl) (fun _ _ _ h => h) (Or.inl ⟨by rfl, by intro w hSw; (try dsimp only at hSw); go_simp⟩) hHeld ?_
          try simp only [Act.put, List.setIfInBounds_toArray, List.set_cons_zero, List.set_cons_succ]
          refine wpAnyH_take (i := 5) (oi := { dst := some 162, op := _, type := _, pos := _, after := _, guard := _ }) (v := .pointer (some ⟨y, 1, none⟩)) rfl (by kernel_rfl) (by kernel_rfl) (by kernel_rfl) (fun _ _ _ h => h) (Or.inl ⟨by rfl, by intro w hSw; (try dsimp only at hSw); go_simp⟩) hHeld ?_
          try simp only [Act.put, List.setIfInBounds_toArray, List.set_cons_zero, List.set_cons_succ]
          refine wpAnyH_take (i := 6) (oi := { dst := some 163, op := _, type := _, pos := _, after := _, guard := _ }) (v := .pointer (some ⟨st, 0, none⟩)) rfl (by kernel_rfl) (by kernel_rfl) (by kernel_rfl) (fun _ _ _ h => h) (Or.inl ⟨by rfl, by intro w hSw; (try dsimp only at hSw); (have q := hSw.1.1.2.1; go_simp)⟩) hHeld ?_
          try simp only [Act.put, List.setIfInBounds_toArray, List.set_cons_zero, List.set_cons_succ]
          refine wpAnyH_take (i := 7) (oi := { dst := some 164, op := _, type := _, pos := _, after := _, guard := _ }) (v := .slice (some ya) l.length rcap) rfl (by kernel_rfl) (by kernel_rfl) (by kernel_rfl) (fun _ _ _ h => h) (Or.inl ⟨by rfl, by intro w hSw; (try dsimp only at hSw); go_simp⟩) hHeld ?_
          try simp only [Act.put, List.setIfInBounds_toArray, List.set_cons_zero, List.set_cons_succ]
          refine wpAnyH_take (i := 8) (oi := { dst := some 165, op := _, type := _, pos := _, after := _, guard := _ }) (v := .int .i64 (i : Int)) rfl (by kernel_rfl) (by kernel_rfl) (by kernel_rfl) (fun _ _ _ h => h) (Or.inl ⟨by rfl, by intro w hSw; (try dsimp only at hSw); go_simp⟩) hHeld ?_
          try simp only [Act.put, List.setIfInBounds_toArray, List.set_cons_zero, List.set_cons_succ]
          refine wpAnyH_take (i := 9) (oi := { dst := some 166, op := _, type := _, pos := _, after := _, guard := _ }) (v := .pointer (some (ya.add (i * 4)))) rfl (by kernel_rfl) (by kernel_rfl) (by kernel_rfl) (fun _ _ _ h => h) (Or.inl ⟨by rfl, by intro w hSw; (try dsimp only at hSw); go_simp⟩) hHeld ?_
          try simp only [Act.put, List.setIfInBounds_toArray, List.set_cons_zero, List.set_cons_succ]
          refine wpAnyH_take (i := 10) (oi := { dst := some 167, op := _, type := _, pos := _, after := _, guard := _ }) (v := .pointer (some ⟨(ya.add (i * 4)).block, (ya.add (i * 4)).off + 1, none⟩)) rfl (by kernel_rfl) (by kernel_rfl) (by kernel_rfl) (fun _ _ _ h => h) (Or.inl ⟨by rfl, by intro w hSw; (try dsimp only at hSw); go_simp⟩) hHeld ?_
          try simp only [Act.put, List.setIfInBounds_toArray, List.set_cons_zero, List.set_cons_succ]
          refine wpAnyH_take (i := 11) (oi := { dst := some 168, op := _, type := _, pos := _, after := _, guard := _ }) (v := .slice sa sure.length sc) rfl (by kernel_rfl) (by kernel_rfl) (by kernel_rfl) (fun _ _ _ h => h) (Or.inl ⟨by rfl, by intro w hSw; (try dsimp only at hSw); (have q := hSw.2.2.1; go_simp)⟩) hHeld ?_
          try simp only [Act.put, List.setIfInBounds_toArray, List.set_cons_zero, List.set_cons_succ]
          refine wpAnyH_ready (rs := [12]) (by kernel_rfl) (by simp) ?_
          refine AllReadyH.cons (o := { dst := some 169, op := _, type := _, pos := _, after := _, guard := _ }) rfl (fun K hK => ?_) AllReadyH.nil
          go_simp
          go_at_call 11
          refine (HSUM.out _ (H10.out.reads (S := S) (by simp) HRS.out)).mono ?_
          rintro e w11 ⟨rfl, hk11⟩
          have H11 := Lib.hid (H10.out.keep hk11)
          clear hk11
          refine hK.out _ _ (by exact ⟨H11.out.held (by simp) (by simp), H11.out.rowAt (ya := ya) (rcap := rcap) (l := l) (by simp) HX.out⟩) (fun hHeld1 => ?_)
          clear hK K
          try simp only [Act.put, List.setIfInBounds_toArray, List.set_cons_zero, List.set_cons_succ]
          refine wpAnyH_ready (rs := [13]) (by kernel_rfl) (by simp) ?_
          refine AllReadyH.cons (o := { dst := some 170, op := _, type := _, pos := _, after := _, guard := _ }) rfl (fun K hK => ?_) AllReadyH.nil
          go_simp
          go_at_call 28
          refine (H11.out.whole (by have := HK50.out; omega) (sumOf_length _)).mono ?_
          rintro e w12 ⟨rfl, hk12⟩
          have H12 := Lib.hid (H11.out.keep hk12)
          clear hk12
          refine hK.out _ _ (by exact ⟨H12.out.held (by simp) (by simp), H12.out.rowAt (ya := ya) (rcap := rcap) (l := l) (by simp) HX.out⟩) (fun hHeld2 => ?_)
          clear hK K
          try simp only [Act.put, List.setIfInBounds_toArray, List.set_cons_zero, List.set_cons_succ]
          refine wpAnyH_take (i := 14) (oi := { dst := some 171, op := _, type := _, pos := _, after := _, guard := _ }) (v := .bool false) rfl (by kernel_rfl) (by kernel_rfl) (by kernel_rfl) (fun _ _ _ h => h) (Or.inl ⟨by rfl, by intro w hSw; (try dsimp only at hSw); go_simp⟩) hHeld2 ?_
          try simp only [Act.put, List.setIfInBounds_toArray, List.set_cons_zero, List.set_cons_succ]
          refine wpAnyH_take (i := 15) (oi := { dst := some 172, op := _, type := _, pos := _, after := _, guard := _ }) (v := .bool false) rfl (by kernel_rfl) (by kernel_rfl) (by kernel_rfl) (fun _ _ _ h => h) (Or.inl ⟨by rfl, by intro w hSw; (try dsimp only at hSw); go_simp⟩) hHeld2 ?_
          try simp only [Act.put, List.setIfInBounds_toArray, List.set_cons_zero, List.set_cons_succ]
          refine wpAnyH_done (by kernel_rfl) ?_ _
          clear hHeld hHeld1 hHeld2 H10 H11 HSUM
          go_upto_region 38 with fail
          have hok := H12.out.drew.ok (S := S) (by simp) HREL.out
          obtain ⟨na, nc, w20, hrun, h20⟩ := H12.out.drew.erase HIL.out.1 (by omega) hok
          have hsl1 := fun W => slice_ptr3 W (some ya) l.length rcap i (by have := HIL.out.1; have := HCAP.out.1; omega)
          have hsl2 := fun W => slice_tail4 W (some ya) l.length rcap (i + 1) (by have := HIL.out.1; omega) HCAP.out.1
          have i5 : (i : Int) + 1 ≤ (l.length : Int) := by omega
          have i6 : (0 : Int) ≤ (i : Int) + 1 := by omega
          simp only [Option.map_some] at hrun hsl2
          have i7 := HCAP.out.1
          have HRUN := Lib.hid hrun
          have H20 := Lib.hid h20
          clear hrun h20 hok
          refine wp_region_held_drew (S := (fun W => Keeps (fun _ => False) w0 W)) (by kernel_rfl) (by exact H12.out.drew.keeps) (fun hHeld => ?_)
          generalize w12.drew = w19 at *
          refine wpAnyH_take (i := 0) (oi := { dst := some 175, op := _, type := _, pos := _, after := _, guard := _ }) (v := .slice (some ya) l.length rcap) rfl (by kernel_rfl) (by kernel_rfl) (by kernel_rfl) (fun _ _ _ h => h) (Or.inl ⟨by rfl, by intro w hSw; (try dsimp only at hSw); go_simp⟩) hHeld ?_
          try simp only [Act.put, List.setIfInBounds_toArray, List.set_cons_zero, List.set_cons_succ]
          refine wpAnyH_take (i := 1) (oi := { dst := some 176, op := _, type := _, pos := _, after := _, guard := _ }) (v := .int .i64 (i : Int)) rfl (by kernel_rfl) (by kernel_rfl) (by kernel_rfl) (fun _ _ _ h => h) (Or.inl ⟨by rfl, by intro w hSw; (try dsimp only at hSw); go_simp⟩) hHeld ?_
          try simp only [Act.put, List.setIfInBounds_toArray, List.set_cons_zero, List.set_cons_succ]
          refine wpAnyH_take (i := 2) (oi := { dst := some 177, op := _, type := _, pos := _, after := _, guard := _ }) (v := .int .i64 (i : Int)) rfl (by kernel_rfl) (by kernel_rfl) (by kernel_rfl) (fun _ _ _ h => h) (Or.inl ⟨by rfl, by intro w hSw; (try dsimp only at hSw); go_simp⟩) hHeld ?_
          try simp only [Act.put, List.setIfInBounds_toArray, List.set_cons_zero, List.set_cons_succ]
          refine wpAnyH_take (i := 3) (oi := { dst := some 178, op := _, type := _, pos := _, after := _, guard := _ }) (v := .slice (some ya) i i) rfl (by kernel_rfl) (by kernel_rfl) (by kernel_rfl) (fun _ _ _ h => h) (Or.inl ⟨by rfl, by intro w hSw; (try dsimp only at hSw); (have q := hsl1 w; go_simp)⟩) hHeld ?_
          try simp only [Act.put, List.setIfInBounds_toArray, List.set_cons_zero, List.set_cons_succ]
          refine wpAnyH_take (i := 4) (oi := { dst := some 179, op := _, type := _, pos := _, after := _, guard := _ }) (v := .slice (some ya) l.length rcap) rfl (by kernel_rfl) (by kernel_rfl) (by kernel_rfl) (fun _ _ _ h => h) (Or.inl ⟨by rfl, by intro w hSw; (try dsimp only at hSw); go_simp⟩) hHeld ?_
          try simp only [Act.put, List.setIfInBounds_toArray, List.set_cons_zero, List.set_cons_succ]
          refine wpAnyH_take (i := 5) (oi := { dst := some 180, op := _, type := _, pos := _, after := _, guard := _ }) (v := .int .i64 (i : Int)) rfl (by kernel_rfl) (by kernel_rfl) (by kernel_rfl) (fun _ _ _ h => h) (Or.inl ⟨by rfl, by intro w hSw; (try dsimp only at hSw); go_simp⟩) hHeld ?_
          try simp only [Act.put, List.setIfInBounds_toArray, List.set_cons_zero, List.set_cons_succ]
          refine wpAnyH_take (i := 6) (oi := { dst := some 181, op := _, type := _, pos := _, after := _, guard := _ }) (v := .int .i64 ((i : Int) + 1)) rfl (by kernel_rfl) (by kernel_rfl) (by kernel_rfl) (fun _ _ _ h => h) (Or.inl ⟨by rfl, by intro w hSw; (try dsimp only at hSw); (go_simp; first | done | (rw [IntKind.wrap_i64]; omega))⟩) hHeld ?_
          try simp only [Act.put, List.setIfInBounds_toArray, List.set_cons_zero, List.set_cons_succ]
          refine wpAnyH_take (i := 7) (oi := { dst := some 182, op := _, type := _, pos := _, after := _, guard := _ }) (v := .slice (if rcap = i + 1 then some ya else some (ya.add ((i + 1) * 4))) (l.length - (i + 1)) (rcap - (i + 1))) rfl (by kernel_rfl) (by kernel_rfl) (by kernel_rfl) (fun _ _ _ h => h) (Or.inl ⟨by rfl, by intro w hSw; (try dsimp only at hSw); (have q := hsl2 w; go_simp)⟩) hHeld ?_
          try simp only [Act.put, List.setIfInBounds_toArray, List.set_cons_zero, List.set_cons_succ]
          refine wpAnyH_ready (rs := [8]) (by kernel_rfl) (by simp) ?_
          refine AllReadyH.cons (o := { dst := some 183, op := _, type := _, pos := _, after := _, guard := _ }) rfl (fun K hK => ?_) AllReadyH.nil
          refine step_append_run rfl _ _ _ _ rfl rfl rfl HRUN.out ?_
          refine hK.out _ _ (by exact H20.out.keeps) (fun hHeld1 => ?_)
          clear hK K
          try simp only [Act.put, List.setIfInBounds_toArray, List.set_cons_zero, List.set_cons_succ]
          refine wpAnyH_take (i := 9) (oi := { dst := some 4, op := _, type := _, pos := _, after := _, guard := _ }) (v := .slice na (l.eraseIdx i).length nc) rfl (by kernel_rfl) (by kernel_rfl) (by kernel_rfl) (fun _ _ _ h => h) (Or.inl ⟨by rfl, by intro w hSw; (try dsimp only at hSw); go_simp⟩) hHeld1 ?_
          try simp only [Act.put, List.setIfInBounds_toArray, List.set_cons_zero, List.set_cons_succ]
          refine wpAnyH_done (by kernel_rfl) ?_ _
          have HG := Lib.hid (show ULs w0 (k + 1) [] (.pointer (some ⟨y, 0, none⟩)) (.slice na (l.eraseIdx i).length nc) w20 from
           ⟨d, j, t, b, u, st, mp, y, _, na, nc, l.eraseIdx i, S, rfl, rfl, by have := HL.out; have := List.length_eraseIdx_le l i; omega, HREL.out.erase i HIL.out.2, HS0.out, H20.out.more.any⟩)
          clear hHeld hHeld1 H20 HRUN hsl1 hsl2 H12
          generalize (if rcap = i + 1 then some ya else some (ya.add ((i + 1) * 4))) = zv
          go_wp2_with fail
          refine Met.intro ?_
          go_step
          refine frame_fill ?_ (by kernel_rfl)
          exact ⟨HK50.out, HG.out⟩
         have H9 := Lib.hid h9
         have HCS := Lib.hid hcase
         clear HCA h9 hcase
         go_upto_region 35 with fail
         refine wp_region_held_drew (S := (fun W => Keeps (fun _ => False) w0 W)) (by kernel_rfl) (by exact H9.out.drew.keeps) (fun hHeld => ?_)
         have H10 := Lib.hid H9.out.drew
         clear H9
         generalize w9.drew = w10 at *
         refine wpAnyH_take (i := 0) (oi := { dst := some 157, op := _, type := _, pos := _, after := _, guard := _ }) (v := .int .i64 cd) rfl (by kernel_rfl) (by kernel_rfl) (by kernel_rfl) (fun _ _ _ h => h) (Or.inl ⟨by rfl, by intro w hSw; (try dsimp only at hSw); go_simp⟩) hHeld ?_
         try simp only [Act.put, List.setIfInBounds_toArray, List.set_cons_zero, List.set_cons_succ]
         refine wpAnyH_take (i := 1) (oi := { dst := some 158, op := _, type := _, pos := _, after := _, guard := _ }) (v := .bool false) rfl (by kernel_rfl) (by kernel_rfl) (by kernel_rfl) (fun _ _ _ h => h) (Or.inl ⟨by rfl, by intro w hSw; (try dsimp only at hSw); go_simp⟩) hHeld ?_
         try simp only [Act.put, List.setIfInBounds_toArray, List.set_cons_zero, List.set_cons_succ]
         refine wpAnyH_take (i := 2) (oi := { dst := some 159, op := _, type := _, pos := _, after := _, guard := _ }) (v := .bool false) rfl (by kernel_rfl) (by kernel_rfl) (by kernel_rfl) (fun _ _ _ h => h) (Or.inl ⟨by rfl, by intro w hSw; (try dsimp only at hSw); go_simp⟩) hHeld ?_
         try simp only [Act.put, List.setIfInBounds_toArray, List.set_cons_zero, List.set_cons_succ]
         refine wpAnyH_take (i := 3) (oi := { dst := some 160, op := _, type := _, pos := _, after := _, guard := _ }) (v := undef) rfl (by kernel_rfl) (by kernel_rfl) (by kernel_rfl) (fun _ _ _ h => h) (Or.inr ⟨by kernel_rfl, rfl⟩) hHeld ?_
         try simp only [Act.put, List.setIfInBounds_toArray, List.set_cons_zero, List.set_cons_succ]
         refine wpAnyH_take (i := 4) (oi := { dst := some 161, op := _, type := _, pos := _, after := _, guard := _ }) (v := undef) rfl (by kernel_rfl) (by kernel_rfl) (by kernel_rfl) (fun _ _ _ h => h) (Or.inr ⟨by kernel_rfl, rfl⟩) hHeld ?_
         try simp only [Act.put, List.setIfInBounds_toArray, List.set_cons_zero, List.set_cons_succ]
         refine wpAnyH_take (i := 5) (oi := { dst := some 162, op := _, type := _, pos := _, after := _, guard := _ }) (v := undef) rfl (by kernel_rfl) (by kernel_rfl) (by kernel_rfl) (fun _ _ _ h => h) (Or.inr ⟨by kernel_rfl, rfl⟩) hHeld ?_
         try simp only [Act.put, List.setIfInBounds_toArray, List.set_cons_zero, List.set_cons_succ]
         refine wpAnyH_take (i := 6) (oi := { dst := some 163, op := _, type := _, pos := _, after := _, guard := _ }) (v := undef) rfl (by kernel_rfl) (by kernel_rfl) (by kernel_rfl) (fun _ _ _ h => h) (Or.inr ⟨by kernel_rfl, rfl⟩) hHeld ?_
         try simp only [Act.put, List.setIfInBounds_toArray, List.set_cons_zero, List.set_cons_succ]
         refine wpAnyH_take (i := 7) (oi := { dst := some 164, op := _, type := _, pos := _, after := _, guard := _ }) (v := undef) rfl (by kernel_rfl) (by kernel_rfl) (by kernel_rfl) (fun _ _ _ h => h) (Or.inr ⟨by kernel_rfl, rfl⟩) hHeld ?_
         try simp only [Act.put, List.setIfInBounds_toArray, List.set_cons_zero, List.set_cons_succ]
         refine wpAnyH_take (i := 8) (oi := { dst := some 165, op := _, type := _, pos := _, after := _, guard := _ }) (v := undef) rfl (by kernel_rfl) (by kernel_rfl) (by kernel_rfl) (fun _ _ _ h => h) (Or.inr ⟨by kernel_rfl, rfl⟩) hHeld ?_
         try simp only [Act.put, List.setIfInBounds_toArray, List.set_cons_zero, List.set_cons_succ]
         refine wpAnyH_take (i := 9) (oi := { dst := some 166, op := _, type := _, pos := _, after := _, guard := _ }) (v := undef) rfl (by kernel_rfl) (by kernel_rfl) (by kernel_rfl) (fun _ _ _ h => h) (Or.inr ⟨by kernel_rfl, rfl⟩) hHeld ?_
         try simp only [Act.put, List.setIfInBounds_toArray, List.set_cons_zero, List.set_cons_succ]
         refine wpAnyH_take (i := 10) (oi := { dst := some 167, op := _, type := _, pos := _, after := _, guard := _ }) (v := undef) rfl (by kernel_rfl) (by kernel_rfl) (by kernel_rfl) (fun _ _ _ h => h) (Or.inr ⟨by kernel_rfl, rfl⟩) hHeld ?_
         try simp only [Act.put, List.setIfInBounds_toArray, List.set_cons_zero, List.set_cons_succ]
         refine wpAnyH_take (i := 11) (oi := { dst := some 168, op := _, type := _, pos := _, after := _, guard := _ }) (v := undef) rfl (by kernel_rfl) (by kernel_rfl) (by kernel_rfl) (fun _ _ _ h => h) (Or.inr ⟨by kernel_rfl, rfl⟩) hHeld ?_
         try simp only [Act.put, List.setIfInBounds_toArray, List.set_cons_zero, List.set_cons_succ]
         refine wpAnyH_take (i := 12) (oi := { dst := some 169, op := _, type := _, pos := _, after := _, guard := _ }) (v := undef) rfl (by kernel_rfl) (by kernel_rfl) (by kernel_rfl) (fun _ _ _ h => h) (Or.inr ⟨by kernel_rfl, rfl⟩) hHeld ?_
         try simp only [Act.put, List.setIfInBounds_toArray, List.set_cons_zero, List.set_cons_succ]
         refine wpAnyH_take (i := 13) (oi := { dst := some 170, op := _, type := _, pos := _, after := _, guard := _ }) (v := undef) rfl (by kernel_rfl) (by kernel_rfl) (by kernel_rfl) (fun _ _ _ h => h) (Or.inr ⟨by kernel_rfl, rfl⟩) hHeld ?_
         try simp only [Act.put, List.setIfInBounds_toArray, List.set_cons_zero, List.set_cons_succ]
         refine wpAnyH_take (i := 14) (oi := { dst := some 171, op := _, type := _, pos := _, after := _, guard := _ }) (v := undef) rfl (by kernel_rfl) (by kernel_rfl) (by kernel_rfl) (fun _ _ _ h => h) (Or.inr ⟨by kernel_rfl, rfl⟩) hHeld ?_
         try simp only [Act.put, List.setIfInBounds_toArray, List.set_cons_zero, List.set_cons_succ]
         refine wpAnyH_take (i := 15) (oi := { dst := some 172, op := _, type := _, pos := _, after := _, guard := _ }) (v := .bool false) rfl (by kernel_rfl) (by kernel_rfl) (by kernel_rfl) (fun _ _ _ h => h) (Or.inl ⟨by rfl, by intro w hSw; (try dsimp only at hSw); go_simp⟩) hHeld ?_
         try simp only [Act.put, List.setIfInBounds_toArray, List.set_cons_zero, List.set_cons_succ]
         refine wpAnyH_done (by kernel_rfl) ?_ _
         clear hHeld HSUM
         rcases HCS.out with ⟨rfl, rfl⟩ | ⟨rfl, hends, rfl⟩
         ·clear HCS hcd
          obtain ⟨-, -, -, c3⟩ := H10.out.rowAt (ya := ya) (rcap := rcap) (l := l) (by simp) HX.out
          have f3 := H10.out.rowFree (i := i) (rcap := rcap) (l := l) (ya := ya) (by simp) ((ya.add (i * 4)).off + 3)
          dsimp only at c3
          have HG := Lib.hid (show ULs w0 (k + 1) [] (.pointer (some ⟨y, 0, none⟩)) (.slice (some ya) l.length rcap) (w10.setCell ⟨(ya.add (i * 4)).block, (ya.add (i * 4)).off + 3, none⟩ (.bool true)) from
           ⟨d, j, t, b, u, st, mp, y, _, some ya, rcap, l.set i ⟨(id : Int), .slice sa sure.length sc, .slice ma may.length mc, true⟩, S, rfl, by rw [List.length_set], by rw [List.length_set]; have := HL.out; omega, HREL.out.set i ⟨rfl, rfl, HRS.out, HRM.out⟩, HS0.out, (H10.out.setAt HX.out 3 (by omega) (.bool true) ⟨(id : Int), .slice sa sure.length sc, .slice ma may.length mc, true⟩ rfl).more⟩)
          clear H10
          cases xe
          ·go_wp2_with fail
           refine Met.intro ?_
           go_step
           refine frame_fill ?_ (by kernel_rfl)
           exact ⟨HK50.out, HG.out⟩
          ·go_wp2_with fail
           refine Met.intro ?_
           go_step
           refine frame_fill ?_ (by kernel_rfl)
           exact ⟨HK50.out, HG.out⟩
         ·clear HCS hcd
          obtain ⟨-, -, -, c3⟩ := H10.out.rowAt (ya := ya) (rcap := rcap) (l := l) (by simp) HX.out
          dsimp only at c3 hends
          subst hends
          have HG := Lib.hid (show ULs w0 (k + 1) [] (.pointer (some ⟨y, 0, none⟩)) (.slice (some ya) l.length rcap) w10 from
           ⟨d, j, t, b, u, st, mp, y, _, some ya, rcap, l, S, rfl, rfl, by have := HL.out; omega, HREL.out, HS0.out, H10.out.more⟩)
          clear H10
          go_wp2_with fail
          refine Met.intro ?_
          go_step
          refine frame_fill ?_ (by kernel_rfl)
          exact ⟨HK50.out, HG.out⟩
       have n2 : (oK == 2) = false := by rw [beq_eq_false_iff_ne]; exact e2
       by_cases e3 : oK = 3
       ·as_aux_lemma =>
         subst e3
         clear n0 n1 n2 e0 e1 e2
         rcases HPV.out with rfl | ⟨i, kp, hkp, hid, rfl⟩
         ·have HG := Lib.hid (show ULs w0 (k + 1) [] (.pointer (some ⟨y, 0, none⟩)) (.slice ra l.length rcap) w6 from
           ⟨d, j, t, b, u, st, mp, y, _, ra, rcap, l, S, rfl, rfl, by have := HL.out; omega, HREL.out, HS0.out, H6.out.next.more⟩)
          clear H6 HPV
          go_wp2_with fail
          refine Met.intro ?_
          go_step
          refine frame_fill ?_ (by kernel_rfl)
          exact ⟨HK50.out, HG.out⟩
         obtain ⟨x, hx, hone⟩ := HREL.out.at hkp
         obtain ⟨ya, rfl⟩ := H6.out.rowSome (ra := ra) (rcap := rcap) (l := l) (by simp) hx
         obtain ⟨cap1, cap2⟩ := H6.out.rowCap (ra := some ya) (rcap := rcap) (l := l) (by simp)
         obtain ⟨sa, sc, hs, hs1, hs2⟩ := (H6.out.reads (S := S) (by simp) hone.2.2.1).form
         obtain ⟨ma, mc, hm, hm1, hm2⟩ := (H6.out.reads (S := S) (by simp) hone.2.2.2).form
         obtain ⟨xi, xs, xm, xe⟩ := x
         obtain ⟨id, sure, may, ends⟩ := kp
         obtain ⟨r1, r2, r3, r4⟩ := hone
         dsimp only at r1 r2 r3 r4 hs hm hs1 hm1 hid
         subst hs hm r1 r2 hid
         have HX := Lib.hid hx
         have HKP := Lib.hid hkp
         have HRS := Lib.hid r3
         have HRM := Lib.hid r4
         have hil : i < l.length := (List.getElem?_eq_some_iff.1 hx).1
         have hih : i < hv.length := (List.getElem?_eq_some_iff.1 hkp).1
         have HIL := Lib.hid (And.intro hil hih)
         have HCAP := Lib.hid (And.intro cap1 cap2)
         have i2 : (i : Int) < (l.length : Int) := by omega
         have i3 : (0 : Int) ≤ (i : Int) := by omega
         have i4 : (l.length : Int) ≤ 100 := by have := HL.out; have := HC60.out; omega
         clear hx hkp r3 r4 hil hih cap1 cap2 hs1 hs2 hm1 hm2 HPV
         go_upto_region 33 with fail
         refine wp_region_held_drew (S := ULh y st u d wb [.int .i64 3, .int .i64 (id : Int), .string oR, .slice pa oP.length pc, .int .i64 oN, .int .i64 oM, .slice la oL.length lc]) (by kernel_rfl) (by exact H6.out.drew.held (by simp) (by simp)) (fun hHeld => ?_)
         have H7 := Lib.hid H6.out.drew
         clear H6
         generalize w6.drew = w7 at *
         refine wpAnyH_take (i := 0) (oi := { dst := some 137, op := _, type := _, pos := _, after := _, guard := _ }) (v := .pointer (some ⟨y, 0, none⟩)) rfl (by kernel_rfl) (by kernel_rfl) (by kernel_rfl) (fun _ _ _ h => h) (Or.inl ⟨by rfl, by intro w hSw; (try dsimp only at hSw); go_simp⟩) hHeld ?_
         try simp only [Act.put, List.setIfInBounds_toArray, List.set_cons_zero, List.set_cons_succ]
         refine wpAnyH_take (i := 1) (oi := { dst := some 138, op := _, type := _, pos := _, after := _, guard := _ }) (v := .pointer (some ⟨y, 0, none⟩)) rfl (by kernel_rfl) (by kernel_rfl) (by kernel_rfl) (fun _ _ _ h => h) (Or.inl ⟨by rfl, by intro w hSw; (try dsimp only at hSw); go_simp⟩) hHeld ?_
         try simp only [Act.put, List.setIfInBounds_toArray, List.set_cons_zero, List.set_cons_succ]
         refine wpAnyH_take (i := 2) (oi := { dst := some 139, op := _, type := _, pos := _, after := _, guard := _ }) (v := .pointer (some ⟨y, 3, none⟩)) rfl (by kernel_rfl) (by kernel_rfl) (by kernel_rfl) (fun _ _ _ h => h) (Or.inl ⟨by rfl, by intro w hSw; (try dsimp only at hSw); go_simp⟩) hHeld ?_
         try simp only [Act.put, List.setIfInBounds_toArray, List.set_cons_zero, List.set_cons_succ]
         refine wpAnyH_take (i := 3) (oi := { dst := some 140, op := _, type := _, pos := _, after := _, guard := _ }) (v := .pointer (some ⟨u, 0, none⟩)) rfl (by kernel_rfl) (by kernel_rfl) (by kernel_rfl) (fun _ _ _ h => h) (Or.inl ⟨by rfl, by intro w hSw; (try dsimp only at hSw); (have q := hSw.1.2.2; go_simp)⟩) hHeld ?_
         try simp only [Act.put, List.setIfInBounds_toArray, List.set_cons_zero, List.set_cons_succ]
         refine wpAnyH_take (i := 4) (oi := { dst := some 141, op := _, type := _, pos := _, after := _, guard := _ }) (v := .pointer (some ⟨wb, 1, none⟩)) rfl (by kernel_rfl) (by kernel_rfl) (by kernel_rfl) (fun _ _ _ h => h) (Or.inl ⟨by rfl, by intro w hSw; (try dsimp only at hSw); go_simp⟩) hHeld ?_
         try simp only [Act.put, List.setIfInBounds_toArray, List.set_cons_zero, List.set_cons_succ]
         refine wpAnyH_take (i := 5) (oi := { dst := some 142, op := _, type := _, pos := _, after := _, guard := _ }) (v := .int .i64 (id : Int)) rfl (by kernel_rfl) (by kernel_rfl) (by kernel_rfl) (fun _ _ _ h => h) (Or.inl ⟨by rfl, by intro w hSw; (try dsimp only at hSw); (have q := hSw.2 1 _ rfl; simp only [Nat.zero_add] at q; go_simp)⟩) hHeld ?_
         try simp only [Act.put, List.setIfInBounds_toArray, List.set_cons_zero, List.set_cons_succ]
         refine wpAnyH_ready (rs := [6]) (by kernel_rfl) (by simp) ?_
         refine AllReadyH.cons (o := { dst := some 143, op := _, type := _, pos := _, after := _, guard := _ }) rfl (fun K hK => ?_) AllReadyH.nil
         refine step_wanted' rfl ?_
         go_simp
         go_at_call 21
         refine (H7.out.cancel HC60.out HKP.out).mono ?_
         rintro e w8 ⟨cd, hv', rfl, h8, hcase⟩
         have H8 := Lib.hid h8
         have HCA := Lib.hid hcase
         clear h8 hcase
         refine hK.out _ _ (by exact H8.out.held (by simp) (by simp)) (fun hHeld1 => ?_)
         clear hK K
         try simp only [Act.put, List.setIfInBounds_toArray, List.set_cons_zero, List.set_cons_succ]
         refine wpAnyH_take (i := 7) (oi := { dst := some 11, op := _, type := _, pos := _, after := _, guard := _ }) (v := .int .i64 cd) rfl (by kernel_rfl) (by kernel_rfl) (by kernel_rfl) (fun _ _ _ h => h) (Or.inl ⟨by rfl, by intro w hSw; (try dsimp only at hSw); go_simp⟩) hHeld1 ?_
         try simp only [Act.put, List.setIfInBounds_toArray, List.set_cons_zero, List.set_cons_succ]
         refine wpAnyH_done (by kernel_rfl) ?_ _
         clear hHeld hHeld1 H7
         rcases HCA.out with ⟨rfl, rfl⟩ | ⟨rfl, rfl⟩ | ⟨rfl, hends, rfl⟩
         ·clear HCA
          go_upto_region 38 with fail
          have hok := H8.out.drew.ok (S := S) (by simp) HREL.out
          obtain ⟨na, nc, w10, hrun, h10⟩ := H8.out.drew.erase HIL.out.1 (by omega) hok
          have hsl1 := fun W => slice_ptr3 W (some ya) l.length rcap i (by have := HIL.out.1; have := HCAP.out.1; omega)
          have hsl2 := fun W => slice_tail4 W (some ya) l.length rcap (i + 1) (by have := HIL.out.1; omega) HCAP.out.1
          have i5 : (i : Int) + 1 ≤ (l.length : Int) := by omega
          have i6 : (0 : Int) ≤ (i : Int) + 1 := by omega
          simp only [Option.map_some] at hrun hsl2
          have i7 := HCAP.out.1
          have HRUN := Lib.hid hrun
          have H10 := Lib.hid h10
          clear hrun h10 hok
          refine wp_region_held_drew (S := (fun W => Keeps (fun _ => False) w0 W)) (by kernel_rfl) (by exact H8.out.drew.keeps) (fun hHeld => ?_)
          generalize w8.drew = w9 at *
          refine wpAnyH_take (i := 0) (oi := { dst := some 175, op := _, type := _, pos := _, after := _, guard := _ }) (v := .slice (some ya) l.length rcap) rfl (by kernel_rfl) (by kernel_rfl) (by kernel_rfl) (fun _ _ _ h => h) (Or.inl ⟨by rfl, by intro w hSw; (try dsimp only at hSw); go_simp⟩) hHeld ?_
          try simp only [Act.put, List.setIfInBounds_toArray, List.set_cons_zero, List.set_cons_succ]
          refine wpAnyH_take (i := 1) (oi := { dst := some 176, op := _, type := _, pos := _, after := _, guard := _ }) (v := .int .i64 (i : Int)) rfl (by kernel_rfl) (by kernel_rfl) (by kernel_rfl) (fun _ _ _ h => h) (Or.inl ⟨by rfl, by intro w hSw; (try dsimp only at hSw); go_simp⟩) hHeld ?_
          try simp only [Act.put, List.setIfInBounds_toArray, List.set_cons_zero, List.set_cons_succ]
          refine wpAnyH_take (i := 2) (oi := { dst := some 177, op := _, type := _, pos := _, after := _, guard := _ }) (v := .int .i64 (i : Int)) rfl (by kernel_rfl) (by kernel_rfl) (by kernel_rfl) (fun _ _ _ h => h) (Or.inl ⟨by rfl, by intro w hSw; (try dsimp only at hSw); go_simp⟩) hHeld ?_
          try simp only [Act.put, List.setIfInBounds_toArray, List.set_cons_zero, List.set_cons_succ]
          refine wpAnyH_take (i := 3) (oi := { dst := some 178, op := _, type := _, pos := _, after := _, guard := _ }) (v := .slice (some ya) i i) rfl (by kernel_rfl) (by kernel_rfl) (by kernel_rfl) (fun _ _ _ h => h) (Or.inl ⟨by rfl, by intro w hSw; (try dsimp only at hSw); (have q := hsl1 w; go_simp)⟩) hHeld ?_
          try simp only [Act.put, List.setIfInBounds_toArray, List.set_cons_zero, List.set_cons_succ]
          refine wpAnyH_take (i := 4) (oi := { dst := some 179, op := _, type := _, pos := _, after := _, guard := _ }) (v := .slice (some ya) l.length rcap) rfl (by kernel_rfl) (by kernel_rfl) (by kernel_rfl) (fun _ _ _ h => h) (Or.inl ⟨by rfl, by intro w hSw; (try dsimp only at hSw); go_simp⟩) hHeld ?_
          try simp only [Act.put, List.setIfInBounds_toArray, List.set_cons_zero, List.set_cons_succ]
          refine wpAnyH_take (i := 5) (oi := { dst := some 180, op := _, type := _, pos := _, after := _, guard := _ }) (v := .int .i64 (i : Int)) rfl (by kernel_rfl) (by kernel_rfl) (by kernel_rfl) (fun _ _ _ h => h) (Or.inl ⟨by rfl, by intro w hSw; (try dsimp only at hSw); go_simp⟩) hHeld ?_
          try simp only [Act.put, List.setIfInBounds_toArray, List.set_cons_zero, List.set_cons_succ]
          refine wpAnyH_take (i := 6) (oi := { dst := some 181, op := _, type := _, pos := _, after := _, guard := _ }) (v := .int .i64 ((i : Int) + 1)) rfl (by kernel_rfl) (by kernel_rfl) (by kernel_rfl) (fun _ _ _ h => h) (Or.inl ⟨by rfl, by intro w hSw; (try dsimp only at hSw); (go_simp; first | done | (rw [IntKind.wrap_i64]; omega))⟩) hHeld ?_
          try simp only [Act.put, List.setIfInBounds_toArray, List.set_cons_zero, List.set_cons_succ]
          refine wpAnyH_take (i := 7) (oi := { dst := some 182, op := _, type := _, pos := _, after := _, guard := _ }) (v := .slice (if rcap = i + 1 then some ya else some (ya.add ((i + 1) * 4))) (l.length - (i + 1)) (rcap - (i + 1))) rfl (by kernel_rfl) (by kernel_rfl) (by kernel_rfl) (fun _ _ _ h => h) (Or.inl ⟨by rfl, by intro w hSw; (try dsimp only at hSw); (have q := hsl2 w; go_simp)⟩) hHeld ?_
          try simp only [Act.put, List.setIfInBounds_toArray, List.set_cons_zero, List.set_cons_succ]
          refine wpAnyH_ready (rs := [8]) (by kernel_rfl) (by simp) ?_
          refine AllReadyH.cons (o := { dst := some 183, op := _, type := _, pos := _, after := _, guard := _ }) rfl (fun K hK => ?_) AllReadyH.nil
          refine step_append_run rfl _ _ _ _ rfl rfl rfl HRUN.out ?_
          refine hK.out _ _ (by exact H10.out.keeps) (fun hHeld1 => ?_)
          clear hK K
          try simp only [Act.put, List.setIfInBounds_toArray, List.set_cons_zero, List.set_cons_succ]
          refine wpAnyH_take (i := 9) (oi := { dst := some 4, op := _, type := _, pos := _, after := _, guard := _ }) (v := .slice na (l.eraseIdx i).length nc) rfl (by kernel_rfl) (by kernel_rfl) (by kernel_rfl) (fun _ _ _ h => h) (Or.inl ⟨by rfl, by intro w hSw; (try dsimp only at hSw); go_simp⟩) hHeld1 ?_
          try simp only [Act.put, List.setIfInBounds_toArray, List.set_cons_zero, List.set_cons_succ]
          refine wpAnyH_done (by kernel_rfl) ?_ _
          have HG := Lib.hid (show ULs w0 (k + 1) [] (.pointer (some ⟨y, 0, none⟩)) (.slice na (l.eraseIdx i).length nc) w10 from
           ⟨d, j, t, b, u, st, mp, y, _, na, nc, l.eraseIdx i, S, rfl, rfl, by have := HL.out; have := List.length_eraseIdx_le l i; omega, HREL.out.erase i HIL.out.2, HS0.out, H10.out.more.any⟩)
          clear hHeld hHeld1 H10 HRUN hsl1 hsl2 H8
          generalize (if rcap = i + 1 then some ya else some (ya.add ((i + 1) * 4))) = zv
          go_wp2_with fail
          refine Met.intro ?_
          go_step
          refine frame_fill ?_ (by kernel_rfl)
          exact ⟨HK50.out, HG.out⟩
         ·clear HCA
          obtain ⟨-, -, -, c3⟩ := H8.out.rowAt (ya := ya) (rcap := rcap) (l := l) (by simp) HX.out
          have f3 := H8.out.rowFree (i := i) (rcap := rcap) (l := l) (ya := ya) (by simp) ((ya.add (i * 4)).off + 3)
          dsimp only at c3
          have HG := Lib.hid (show ULs w0 (k + 1) [] (.pointer (some ⟨y, 0, none⟩)) (.slice (some ya) l.length rcap) (w8.setCell ⟨(ya.add (i * 4)).block, (ya.add (i * 4)).off + 3, none⟩ (.bool true)) from
           ⟨d, j, t, b, u, st, mp, y, _, some ya, rcap, l.set i ⟨(id : Int), .slice sa sure.length sc, .slice ma may.length mc, true⟩, S, rfl, by rw [List.length_set], by rw [List.length_set]; have := HL.out; omega, HREL.out.set i ⟨rfl, rfl, HRS.out, HRM.out⟩, HS0.out, (H8.out.setAt HX.out 3 (by omega) (.bool true) ⟨(id : Int), .slice sa sure.length sc, .slice ma may.length mc, true⟩ rfl).more⟩)
          clear H8
          cases xe
          ·go_wp2_with fail
           refine Met.intro ?_
           go_step
           refine frame_fill ?_ (by kernel_rfl)
           exact ⟨HK50.out, HG.out⟩
          ·go_wp2_with fail
           refine Met.intro ?_
           go_step
           refine frame_fill ?_ (by kernel_rfl)
           exact ⟨HK50.out, HG.out⟩
         ·clear HCA
          obtain ⟨-, -, -, c3⟩ := H8.out.rowAt (ya := ya) (rcap := rcap) (l := l) (by simp) HX.out
          dsimp only at c3 hends
          subst hends
          have HG := Lib.hid (show ULs w0 (k + 1) [] (.pointer (some ⟨y, 0, none⟩)) (.slice (some ya) l.length rcap) w8 from
           ⟨d, j, t, b, u, st, mp, y, _, some ya, rcap, l, S, rfl, rfl, by have := HL.out; omega, HREL.out, HS0.out, H8.out.more⟩)
          clear H8
          go_wp2_with fail
          refine Met.intro ?_
          go_step
          refine frame_fill ?_ (by kernel_rfl)
          exact ⟨HK50.out, HG.out⟩
       have n3 : (oK == 3) = false := by rw [beq_eq_false_iff_ne]; exact e3
       by_cases e5 : oK = 5
       ·as_aux_lemma =>
         subst e5
         clear n0 n1 n2 n3 e0 e1 e2 e3
         go_upto_region 44 with fail
         clear HPV
         refine wp_region_held_drew (S := ULh y st u d wb [.int .i64 5, .int .i64 oI, .string oR, .slice pa oP.length pc, .int .i64 oN, .int .i64 oM, .slice la oL.length lc]) (by kernel_rfl) (by exact H6.out.drew.held (by simp) (by simp)) (fun hHeld => ?_)
         have H7 := Lib.hid H6.out.drew
         clear H6
         generalize w6.drew = w7 at *
         refine wpAnyH_take (i := 0) (oi := { dst := some 201, op := _, type := _, pos := _, after := _, guard := _ }) (v := .pointer (some ⟨y, 0, none⟩)) rfl (by kernel_rfl) (by kernel_rfl) (by kernel_rfl) (fun _ _ _ h => h) (Or.inl ⟨by rfl, by intro w hSw; (try dsimp only at hSw); go_simp⟩) hHeld ?_
         try simp only [Act.put, List.setIfInBounds_toArray, List.set_cons_zero, List.set_cons_succ]
         refine wpAnyH_take (i := 1) (oi := { dst := some 202, op := _, type := _, pos := _, after := _, guard := _ }) (v := .pointer (some ⟨y, 0, none⟩)) rfl (by kernel_rfl) (by kernel_rfl) (by kernel_rfl) (fun _ _ _ h => h) (Or.inl ⟨by rfl, by intro w hSw; (try dsimp only at hSw); go_simp⟩) hHeld ?_
         try simp only [Act.put, List.setIfInBounds_toArray, List.set_cons_zero, List.set_cons_succ]
         refine wpAnyH_take (i := 2) (oi := { dst := some 203, op := _, type := _, pos := _, after := _, guard := _ }) (v := .pointer (some ⟨y, 0, none⟩)) rfl (by kernel_rfl) (by kernel_rfl) (by kernel_rfl) (fun _ _ _ h => h) (Or.inl ⟨by rfl, by intro w hSw; (try dsimp only at hSw); go_simp⟩) hHeld ?_
         try simp only [Act.put, List.setIfInBounds_toArray, List.set_cons_zero, List.set_cons_succ]
         refine wpAnyH_take (i := 3) (oi := { dst := some 204, op := _, type := _, pos := _, after := _, guard := _ }) (v := .pointer (some ⟨d, 0, none⟩)) rfl (by kernel_rfl) (by kernel_rfl) (by kernel_rfl) (fun _ _ _ h => h) (Or.inl ⟨by rfl, by intro w hSw; (try dsimp only at hSw); (have q := hSw.1.1; go_simp)⟩) hHeld ?_
         try simp only [Act.put, List.setIfInBounds_toArray, List.set_cons_zero, List.set_cons_succ]
         refine wpAnyH_take (i := 4) (oi := { dst := some 205, op := _, type := _, pos := _, after := _, guard := _ }) (v := .pointer (some ⟨wb, 4, none⟩)) rfl (by kernel_rfl) (by kernel_rfl) (by kernel_rfl) (fun _ _ _ h => h) (Or.inl ⟨by rfl, by intro w hSw; (try dsimp only at hSw); go_simp⟩) hHeld ?_
         try simp only [Act.put, List.setIfInBounds_toArray, List.set_cons_zero, List.set_cons_succ]
         refine wpAnyH_take (i := 5) (oi := { dst := some 206, op := _, type := _, pos := _, after := _, guard := _ }) (v := .int .i64 oN) rfl (by kernel_rfl) (by kernel_rfl) (by kernel_rfl) (fun _ _ _ h => h) (Or.inl ⟨by rfl, by intro w hSw; (try dsimp only at hSw); (have q := hSw.2 4 _ rfl; simp only [Nat.zero_add] at q; go_simp)⟩) hHeld ?_
         try simp only [Act.put, List.setIfInBounds_toArray, List.set_cons_zero, List.set_cons_succ]
         refine wpAnyH_ready (rs := [6]) (by kernel_rfl) (by simp) ?_
         refine AllReadyH.cons (o := { dst := some 207, op := _, type := _, pos := _, after := _, guard := _ }) rfl (fun K hK => ?_) AllReadyH.nil
         refine step_wanted' rfl ?_
         go_simp
         go_at_call 29
         obtain ⟨w8, v8, hrn, h8⟩ := H7.out.fuse oN HN.out.1.2
         refine hrn.out.mono ?_
         rintro e w' ⟨rfl, rfl⟩
         have H8 := Lib.hid h8
         clear h8 hrn
         refine hK.out _ _ (by exact H8.out.held (by simp) (by simp)) (fun hHeld1 => ?_)
         clear hK K
         try simp only [Act.put, List.setIfInBounds_toArray, List.set_cons_zero, List.set_cons_succ]
         refine wpAnyH_done (by kernel_rfl) ?_ _
         have HG := Lib.hid (show ULs w0 (k + 1) [] (.pointer (some ⟨y, 0, none⟩)) (.slice ra l.length rcap) w8 from
          ⟨d, j, t, b, u, st, mp, y, _, ra, rcap, l, S, rfl, rfl, by have := HL.out; omega, HREL.out, HS0.out, H8.out.next.more⟩)
         clear hHeld hHeld1 H7 H8
         go_wp2_with fail
         refine Met.intro ?_
         go_step
         refine frame_fill ?_ (by kernel_rfl)
         exact ⟨HK50.out, HG.out⟩
       have n5 : (oK == 5) = false := by rw [beq_eq_false_iff_ne]; exact e5
       by_cases e6 : oK = 6
       ·as_aux_lemma =>
         subst e6
         clear n0 n1 n2 n3 n5 e0 e1 e2 e3 e5
         go_upto_region 46 with fail
         clear HPV
         refine wp_region_held_drew (S := ULh y st u d wb [.int .i64 6, .int .i64 oI, .string oR, .slice pa oP.length pc, .int .i64 oN, .int .i64 oM, .slice la oL.length lc]) (by kernel_rfl) (by exact H6.out.drew.held (by simp) (by simp)) (fun hHeld => ?_)
         have H7 := Lib.hid H6.out.drew
         clear H6
         generalize w6.drew = w7 at *
         refine wpAnyH_take (i := 0) (oi := { dst := some 210, op := _, type := _, pos := _, after := _, guard := _ }) (v := .pointer (some ⟨y, 0, none⟩)) rfl (by kernel_rfl) (by kernel_rfl) (by kernel_rfl) (fun _ _ _ h => h) (Or.inl ⟨by rfl, by intro w hSw; (try dsimp only at hSw); go_simp⟩) hHeld ?_
         try simp only [Act.put, List.setIfInBounds_toArray, List.set_cons_zero, List.set_cons_succ]
         refine wpAnyH_take (i := 1) (oi := { dst := some 211, op := _, type := _, pos := _, after := _, guard := _ }) (v := .pointer (some ⟨y, 0, none⟩)) rfl (by kernel_rfl) (by kernel_rfl) (by kernel_rfl) (fun _ _ _ h => h) (Or.inl ⟨by rfl, by intro w hSw; (try dsimp only at hSw); go_simp⟩) hHeld ?_
         try simp only [Act.put, List.setIfInBounds_toArray, List.set_cons_zero, List.set_cons_succ]
         refine wpAnyH_take (i := 2) (oi := { dst := some 212, op := _, type := _, pos := _, after := _, guard := _ }) (v := .pointer (some ⟨y, 0, none⟩)) rfl (by kernel_rfl) (by kernel_rfl) (by kernel_rfl) (fun _ _ _ h => h) (Or.inl ⟨by rfl, by intro w hSw; (try dsimp only at hSw); go_simp⟩) hHeld ?_
         try simp only [Act.put, List.setIfInBounds_toArray, List.set_cons_zero, List.set_cons_succ]
         refine wpAnyH_take (i := 3) (oi := { dst := some 213, op := _, type := _, pos := _, after := _, guard := _ }) (v := .pointer (some ⟨d, 0, none⟩)) rfl (by kernel_rfl) (by kernel_rfl) (by kernel_rfl) (fun _ _ _ h => h) (Or.inl ⟨by rfl, by intro w hSw; (try dsimp only at hSw); (have q := hSw.1.1; go_simp)⟩) hHeld ?_
         try simp only [Act.put, List.setIfInBounds_toArray, List.set_cons_zero, List.set_cons_succ]
         refine wpAnyH_take (i := 4) (oi := { dst := some 214, op := _, type := _, pos := _, after := _, guard := _ }) (v := .pointer (some ⟨wb, 4, none⟩)) rfl (by kernel_rfl) (by kernel_rfl) (by kernel_rfl) (fun _ _ _ h => h) (Or.inl ⟨by rfl, by intro w hSw; (try dsimp only at hSw); go_simp⟩) hHeld ?_
         try simp only [Act.put, List.setIfInBounds_toArray, List.set_cons_zero, List.set_cons_succ]
         refine wpAnyH_take (i := 5) (oi := { dst := some 215, op := _, type := _, pos := _, after := _, guard := _ }) (v := .int .i64 oN) rfl (by kernel_rfl) (by kernel_rfl) (by kernel_rfl) (fun _ _ _ h => h) (Or.inl ⟨by rfl, by intro w hSw; (try dsimp only at hSw); (have q := hSw.2 4 _ rfl; simp only [Nat.zero_add] at q; go_simp)⟩) hHeld ?_
         try simp only [Act.put, List.setIfInBounds_toArray, List.set_cons_zero, List.set_cons_succ]
         refine wpAnyH_take (i := 6) (oi := { dst := some 216, op := _, type := _, pos := _, after := _, guard := _ }) (v := .pointer (some ⟨wb, 5, none⟩)) rfl (by kernel_rfl) (by kernel_rfl) (by kernel_rfl) (fun _ _ _ h => h) (Or.inl ⟨by rfl, by intro w hSw; (try dsimp only at hSw); go_simp⟩) hHeld ?_
         try simp only [Act.put, List.setIfInBounds_toArray, List.set_cons_zero, List.set_cons_succ]
         refine wpAnyH_take (i := 7) (oi := { dst := some 217, op := _, type := _, pos := _, after := _, guard := _ }) (v := .int .i64 oM) rfl (by kernel_rfl) (by kernel_rfl) (by kernel_rfl) (fun _ _ _ h => h) (Or.inl ⟨by rfl, by intro w hSw; (try dsimp only at hSw); (have q := hSw.2 5 _ rfl; simp only [Nat.zero_add] at q; go_simp)⟩) hHeld ?_
         try simp only [Act.put, List.setIfInBounds_toArray, List.set_cons_zero, List.set_cons_succ]
         refine wpAnyH_ready (rs := [8]) (by kernel_rfl) (by simp) ?_
         refine AllReadyH.cons (o := { dst := some 218, op := _, type := _, pos := _, after := _, guard := _ }) rfl (fun K hK => ?_) AllReadyH.nil
         refine step_wanted' rfl ?_
         go_simp
         go_at_call 30
         refine (H7.out.crash oN oM).mono ?_
         rintro e w8 ⟨rfl, h8⟩
         have H8 := Lib.hid h8
         clear h8
         refine hK.out _ _ (by exact H8.out.held (t := t) (by simp) (by simp)) (fun hHeld1 => ?_)
         clear hK K
         try simp only [Act.put, List.setIfInBounds_toArray, List.set_cons_zero, List.set_cons_succ]
         refine wpAnyH_done (by kernel_rfl) ?_ _
         have q5 := hHeld1.2 5 _ rfl
         simp only [Nat.zero_add] at q5
         obtain ⟨g0, hg0, hx⟩ := rem_small oM 3 (by omega) (by omega)
         have HG0 := Lib.hid hg0
         clear hHeld hHeld1 H7 hg0
         go_wp2_with fail
         go_loopw [12] (fun gv wx => ∃ g : Nat, gv = .int .i64 (g : Int) ∧ g ≤ 2 ∧ UCr w0 d [rObj w0.heap.size wb (opUObj 6 oI oR (.slice pa oP.length pc) oN oM (.slice la oL.length lc)), rKRow w0.heap.size (.slice ra l.length rcap) l.length (kvs l), rRds w0.heap.size S, rObj w0.heap.size y (yObj d st t u)] k hv wx) (fun gv _ => (intOf gv).toNat)
         case atStart => exact ⟨g0, congrArg _ hx, by have := HG0.out; omega, H8.out⟩
         case round =>
          obtain ⟨g, rfl, hg, hcr⟩ := hrel
          have HGE := Lib.hid hg
          have HW := Lib.hid hcr
          have gg : (0 : Int) ≤ (g : Int) := by omega
          clear hcr H8 q5 hx
          by_cases hg0 : 0 < g
          ·have g1 : (0 : Int) < (g : Int) := by omega
           have hg2 : (g : Int) ≤ 2 := by omega
           obtain ⟨z, hz, hzx⟩ := rem_small (IntKind.i64.wrap (oN + (g : Int))) 9 (by omega) (by omega)
           have HZ := Lib.hid hz
           have HZX := Lib.hid hzx
           clear hz hzx hg
           go_upto_region 50 with fail
           refine wp_region_held_drew (S := ULh y st u d wb [.int .i64 6, .int .i64 oI, .string oR, .slice pa oP.length pc, .int .i64 oN, .int .i64 oM, .slice la oL.length lc]) (by kernel_rfl) (by exact (HW.out.keep (Keeps.refl _ _).drew).held (t := t) (by simp) (by simp)) (fun hHeld => ?_)
           have H9 := Lib.hid (HW.out.keep (Keeps.refl _ _).drew)
           clear HW
           generalize wr.drew = w9 at *
           refine wpAnyH_take (i := 0) (oi := { dst := some 228, op := _, type := _, pos := _, after := _, guard := _ }) (v := .pointer (some ⟨y, 0, none⟩)) rfl (by kernel_rfl) (by kernel_rfl) (by kernel_rfl) (fun _ _ _ h => h) (Or.inl ⟨by rfl, by intro w hSw; (try dsimp only at hSw); go_simp⟩) hHeld ?_
           try simp only [Act.put, List.setIfInBounds_toArray, List.set_cons_zero, List.set_cons_succ]
           refine wpAnyH_take (i := 1) (oi := { dst := some 229, op := _, type := _, pos := _, after := _, guard := _ }) (v := .pointer (some ⟨y, 0, none⟩)) rfl (by kernel_rfl) (by kernel_rfl) (by kernel_rfl) (fun _ _ _ h => h) (Or.inl ⟨by rfl, by intro w hSw; (try dsimp only at hSw); go_simp⟩) hHeld ?_
           try simp only [Act.put, List.setIfInBounds_toArray, List.set_cons_zero, List.set_cons_succ]
           refine wpAnyH_take (i := 2) (oi := { dst := some 230, op := _, type := _, pos := _, after := _, guard := _ }) (v := .pointer (some ⟨y, 0, none⟩)) rfl (by kernel_rfl) (by kernel_rfl) (by kernel_rfl) (fun _ _ _ h => h) (Or.inl ⟨by rfl, by intro w hSw; (try dsimp only at hSw); go_simp⟩) hHeld ?_
           try simp only [Act.put, List.setIfInBounds_toArray, List.set_cons_zero, List.set_cons_succ]
           refine wpAnyH_take (i := 3) (oi := { dst := some 231, op := _, type := _, pos := _, after := _, guard := _ }) (v := .pointer (some ⟨d, 0, none⟩)) rfl (by kernel_rfl) (by kernel_rfl) (by kernel_rfl) (fun _ _ _ h => h) (Or.inl ⟨by rfl, by intro w hSw; (try dsimp only at hSw); (have q := hSw.1.1; go_simp)⟩) hHeld ?_
           try simp only [Act.put, List.setIfInBounds_toArray, List.set_cons_zero, List.set_cons_succ]
           refine wpAnyH_take (i := 4) (oi := { dst := some 232, op := _, type := _, pos := _, after := _, guard := _ }) (v := .pointer (some ⟨wb, 4, none⟩)) rfl (by kernel_rfl) (by kernel_rfl) (by kernel_rfl) (fun _ _ _ h => h) (Or.inl ⟨by rfl, by intro w hSw; (try dsimp only at hSw); go_simp⟩) hHeld ?_
           try simp only [Act.put, List.setIfInBounds_toArray, List.set_cons_zero, List.set_cons_succ]
           refine wpAnyH_take (i := 5) (oi := { dst := some 233, op := _, type := _, pos := _, after := _, guard := _ }) (v := .int .i64 oN) rfl (by kernel_rfl) (by kernel_rfl) (by kernel_rfl) (fun _ _ _ h => h) (Or.inl ⟨by rfl, by intro w hSw; (try dsimp only at hSw); (have q := hSw.2 4 _ rfl; simp only [Nat.zero_add] at q; go_simp)⟩) hHeld ?_
           try simp only [Act.put, List.setIfInBounds_toArray, List.set_cons_zero, List.set_cons_succ]
           refine wpAnyH_take (i := 6) (oi := { dst := some 234, op := _, type := _, pos := _, after := _, guard := _ }) (v := .int .i64 (g : Int)) rfl (by kernel_rfl) (by kernel_rfl) (by kernel_rfl) (fun _ _ _ h => h) (Or.inl ⟨by rfl, by intro w hSw; (try dsimp only at hSw); go_simp⟩) hHeld ?_
           try simp only [Act.put, List.setIfInBounds_toArray, List.set_cons_zero, List.set_cons_succ]
           refine wpAnyH_take (i := 7) (oi := { dst := some 235, op := _, type := _, pos := _, after := _, guard := _ }) (v := .int .i64 (IntKind.i64.wrap (oN + (g : Int)))) rfl (by kernel_rfl) (by kernel_rfl) (by kernel_rfl) (fun _ _ _ h => h) (Or.inl ⟨by rfl, by intro w hSw; (try dsimp only at hSw); go_simp⟩) hHeld ?_
           try simp only [Act.put, List.setIfInBounds_toArray, List.set_cons_zero, List.set_cons_succ]
           refine wpAnyH_take (i := 8) (oi := { dst := some 236, op := _, type := _, pos := _, after := _, guard := _ }) (v := .int .u64 (IntKind.u64.wrap (IntKind.i64.wrap (oN + (g : Int))))) rfl (by kernel_rfl) (by kernel_rfl) (by kernel_rfl) (fun _ _ _ h => h) (Or.inl ⟨by rfl, by intro w hSw; (try dsimp only at hSw); go_simp⟩) hHeld ?_
           try simp only [Act.put, List.setIfInBounds_toArray, List.set_cons_zero, List.set_cons_succ]
           refine wpAnyH_take (i := 9) (oi := { dst := some 237, op := _, type := _, pos := _, after := _, guard := _ }) (v := .int .u64 ((IntKind.u64.wrap (IntKind.i64.wrap (oN + (g : Int)))).tmod 9)) rfl (by kernel_rfl) (by kernel_rfl) (by kernel_rfl) (fun _ _ _ h => h) (Or.inl ⟨by rfl, by intro w hSw; (try dsimp only at hSw); go_simp⟩) hHeld ?_
           try simp only [Act.put, List.setIfInBounds_toArray, List.set_cons_zero, List.set_cons_succ]
           refine wpAnyH_take (i := 10) (oi := { dst := some 238, op := _, type := _, pos := _, after := _, guard := _ }) (v := .int .i64 (z : Int)) rfl (by kernel_rfl) (by kernel_rfl) (by kernel_rfl) (fun _ _ _ h => h) (Or.inl ⟨by rfl, by intro w hSw; (try dsimp only at hSw); (have q : wrap64 ((IntKind.u64.wrap (IntKind.i64.wrap (oN + (g : Int)))).tmod 9) = (z : Int) := HZX.out; go_simp; first | done | (unfold wrap64 at q; rw [IntKind.wrap_i64]; omega))⟩) hHeld ?_
           try simp only [Act.put, List.setIfInBounds_toArray, List.set_cons_zero, List.set_cons_succ]
           refine wpAnyH_ready (rs := [11]) (by kernel_rfl) (by simp) ?_
           refine AllReadyH.cons (o := { dst := some 239, op := _, type := _, pos := _, after := _, guard := _ }) rfl (fun K hK => ?_) AllReadyH.nil
           refine step_wanted' rfl ?_
           go_simp
           go_at_call 29
           obtain ⟨w10, v10, hrn, h10⟩ := H9.out.fuse HC60.out (z : Int) (by have := HZ.out; omega)
           refine hrn.out.mono ?_
           rintro e w' ⟨rfl, rfl⟩
           have H10 := Lib.hid h10
           clear h10 hrn
           refine hK.out _ _ (by exact H10.out.held (t := t) (by simp) (by simp)) (fun hHeld1 => ?_)
           clear hK K
           try simp only [Act.put, List.setIfInBounds_toArray, List.set_cons_zero, List.set_cons_succ]
           refine wpAnyH_done (by kernel_rfl) ?_ _
           obtain ⟨y0, -, -⟩ := hHeld1.1
           have HOP := Lib.hid (H10.out.opened HC60.out HGL.out)
           clear hHeld hHeld1 H9 H10
           go_wp2_with fail
           refine HOP.out.mono ?_
           rintro e w11 ⟨⟨v, cd, rfl⟩, h11⟩
           have H11 := Lib.hid h11
           clear h11 HOP y0
           go_upto_region 52 with fail
           refine wp_region_held_drew (S := ULh y st u d wb [.int .i64 6, .int .i64 oI, .string oR, .slice pa oP.length pc, .int .i64 oN, .int .i64 oM, .slice la oL.length lc]) (by kernel_rfl) (by exact (H11.out.keep (Keeps.refl _ _).drew).held (t := t) (by simp) (by simp)) (fun hHeld => ?_)
           have H12 := Lib.hid (H11.out.keep (Keeps.refl _ _).drew)
           clear H11
           generalize w11.drew = w12 at *
           refine wpAnyH_take (i := 0) (oi := { dst := some 245, op := _, type := _, pos := _, after := _, guard := _ }) (v := .pointer (some ⟨y, 0, none⟩)) rfl (by kernel_rfl) (by kernel_rfl) (by kernel_rfl) (fun _ _ _ h => h) (Or.inl ⟨by rfl, by intro w hSw; (try dsimp only at hSw); go_simp⟩) hHeld ?_
           try simp only [Act.put, List.setIfInBounds_toArray, List.set_cons_zero, List.set_cons_succ]
           refine wpAnyH_take (i := 1) (oi := { dst := some 246, op := _, type := _, pos := _, after := _, guard := _ }) (v := .pointer (some ⟨y, 0, none⟩)) rfl (by kernel_rfl) (by kernel_rfl) (by kernel_rfl) (fun _ _ _ h => h) (Or.inl ⟨by rfl, by intro w hSw; (try dsimp only at hSw); go_simp⟩) hHeld ?_
           try simp only [Act.put, List.setIfInBounds_toArray, List.set_cons_zero, List.set_cons_succ]
           refine wpAnyH_take (i := 2) (oi := { dst := some 247, op := _, type := _, pos := _, after := _, guard := _ }) (v := .pointer (some ⟨y, 0, none⟩)) rfl (by kernel_rfl) (by kernel_rfl) (by kernel_rfl) (fun _ _ _ h => h) (Or.inl ⟨by rfl, by intro w hSw; (try dsimp only at hSw); go_simp⟩) hHeld ?_
           try simp only [Act.put, List.setIfInBounds_toArray, List.set_cons_zero, List.set_cons_succ]
           refine wpAnyH_take (i := 3) (oi := { dst := some 248, op := _, type := _, pos := _, after := _, guard := _ }) (v := .pointer (some ⟨d, 0, none⟩)) rfl (by kernel_rfl) (by kernel_rfl) (by kernel_rfl) (fun _ _ _ h => h) (Or.inl ⟨by rfl, by intro w hSw; (try dsimp only at hSw); (have q := hSw.1.1; go_simp)⟩) hHeld ?_
           try simp only [Act.put, List.setIfInBounds_toArray, List.set_cons_zero, List.set_cons_succ]
           refine wpAnyH_take (i := 4) (oi := { dst := some 249, op := _, type := _, pos := _, after := _, guard := _ }) (v := .pointer (some ⟨wb, 4, none⟩)) rfl (by kernel_rfl) (by kernel_rfl) (by kernel_rfl) (fun _ _ _ h => h) (Or.inl ⟨by rfl, by intro w hSw; (try dsimp only at hSw); go_simp⟩) hHeld ?_
           try simp only [Act.put, List.setIfInBounds_toArray, List.set_cons_zero, List.set_cons_succ]
           refine wpAnyH_take (i := 5) (oi := { dst := some 250, op := _, type := _, pos := _, after := _, guard := _ }) (v := .int .i64 oN) rfl (by kernel_rfl) (by kernel_rfl) (by kernel_rfl) (fun _ _ _ h => h) (Or.inl ⟨by rfl, by intro w hSw; (try dsimp only at hSw); (have q := hSw.2 4 _ rfl; simp only [Nat.zero_add] at q; go_simp)⟩) hHeld ?_
           try simp only [Act.put, List.setIfInBounds_toArray, List.set_cons_zero, List.set_cons_succ]
           refine wpAnyH_take (i := 6) (oi := { dst := some 251, op := _, type := _, pos := _, after := _, guard := _ }) (v := .int .i64 (IntKind.i64.wrap (oN.tdiv 2))) rfl (by kernel_rfl) (by kernel_rfl) (by kernel_rfl) (fun _ _ _ h => h) (Or.inl ⟨by rfl, by intro w hSw; (try dsimp only at hSw); go_simp⟩) hHeld ?_
           try simp only [Act.put, List.setIfInBounds_toArray, List.set_cons_zero, List.set_cons_succ]
           refine wpAnyH_take (i := 7) (oi := { dst := some 252, op := _, type := _, pos := _, after := _, guard := _ }) (v := .pointer (some ⟨wb, 5, none⟩)) rfl (by kernel_rfl) (by kernel_rfl) (by kernel_rfl) (fun _ _ _ h => h) (Or.inl ⟨by rfl, by intro w hSw; (try dsimp only at hSw); go_simp⟩) hHeld ?_
           try simp only [Act.put, List.setIfInBounds_toArray, List.set_cons_zero, List.set_cons_succ]
           refine wpAnyH_take (i := 8) (oi := { dst := some 253, op := _, type := _, pos := _, after := _, guard := _ }) (v := .int .i64 oM) rfl (by kernel_rfl) (by kernel_rfl) (by kernel_rfl) (fun _ _ _ h => h) (Or.inl ⟨by rfl, by intro w hSw; (try dsimp only at hSw); (have q := hSw.2 5 _ rfl; simp only [Nat.zero_add] at q; go_simp)⟩) hHeld ?_
           try simp only [Act.put, List.setIfInBounds_toArray, List.set_cons_zero, List.set_cons_succ]
           refine wpAnyH_take (i := 9) (oi := { dst := some 254, op := _, type := _, pos := _, after := _, guard := _ }) (v := .int .i64 (IntKind.i64.wrap (oM.tdiv 3))) rfl (by kernel_rfl) (by kernel_rfl) (by kernel_rfl) (fun _ _ _ h => h) (Or.inl ⟨by rfl, by intro w hSw; (try dsimp only at hSw); go_simp⟩) hHeld ?_
           try simp only [Act.put, List.setIfInBounds_toArray, List.set_cons_zero, List.set_cons_succ]
           refine wpAnyH_ready (rs := [10]) (by kernel_rfl) (by simp) ?_
           refine AllReadyH.cons (o := { dst := some 255, op := _, type := _, pos := _, after := _, guard := _ }) rfl (fun K hK => ?_) AllReadyH.nil
           refine step_wanted' rfl ?_
           go_simp
           go_at_call 30
           refine (H12.out.crash (IntKind.i64.wrap (oN.tdiv 2)) (IntKind.i64.wrap (oM.tdiv 3))).mono ?_
           rintro e w13 ⟨rfl, h13⟩
           have H13 := Lib.hid h13
           clear h13
           refine hK.out _ _ (by exact H13.out.held (t := t) (by simp) (by simp)) (fun hHeld1 => ?_)
           clear hK K
           try simp only [Act.put, List.setIfInBounds_toArray, List.set_cons_zero, List.set_cons_succ]
           refine wpAnyH_done (by kernel_rfl) ?_ _
           clear hHeld hHeld1 H12
           go_wp2_with fail
           go_roundw
           case rel => exact ⟨g - 1, by congr 1; omega, by have := HGE.out; omega, H13.out⟩
           case measure => simp [intOf]; omega
          ·have g1 : ¬ (0 : Int) < (g : Int) := by omega
           obtain ⟨⟨y0, -, -⟩, -⟩ := HW.out.held (t := t) (u := u) (st := st) (y := y) (bx := wb) (k := 6) (i := oI) (r := oR) (pv := .slice pa oP.length pc) (n := oN) (m := oM) (lv := .slice la oL.length lc) (by simp) (by simp)
           have HOP := Lib.hid (HW.out.opened HC60.out HGL.out)
           clear HW hg0 hg
           go_wp2_with fail
           refine HOP.out.mono ?_
           rintro e w14 ⟨y2, st2, j3', t2, b2, u2, mp2, nx, T, L, rfl, hLS, hFO, hO⟩
           have HFND := Lib.hid (found13_calls hO (y := y2) (by simp) (S0 := S) (by simp) (a := ra) (c := rcap) (l := l) (by simp) HREL.out hFO (by have := HL.out; have := HC60.out; omega))
           have HLS := Lib.hid hLS
           clear HOP y0 hLS hFO hO
           go_wp2_with fail
           refine HFND.out.mono ?_
           rintro e w15 ⟨a', c', l', S', rfl, hR', hO'⟩
           have HG := Lib.hid (show ULs w0 (k + 1) [] (.pointer (some ⟨y2, 0, none⟩)) (.slice a' l'.length c') w15 from by
            refine ⟨d, j3', t2, b2, u2, st2, mp2, y2, _, a', c', l', (.slice none 0 0, []) :: S', rfl, rfl, ?_, hR'.mono (fun p hp => List.mem_cons_of_mem _ hp), List.mem_cons_self .., T, L, nx, HLS.out.next, trivial, ?_⟩
            ·have e1 := hR'.1
             have e2 := HREL.out.1
             have e3 : (foundOf hv (L.map (·.1))).length ≤ hv.length := by unfold foundOf; exact List.length_filterMap_le _ _
             have := HL.out
             omega
            ·have h1 := (hO'.twoHead.rdsOld (v := .slice none 0 0) (l := []) (.inl ⟨rfl, rfl⟩)).swap.twoEnd
             refine Own.dropRight (M := [rObj w0.heap.size wb (opUObj 6 oI oR (.slice pa oP.length pc) oN oM (.slice la oL.length lc)), rKRow w0.heap.size (.slice ra l.length rcap) l.length (kvs l), rRds w0.heap.size S, rObj w0.heap.size y (yObj d st t u)]) ?_
             rw [List.append_assoc, List.append_assoc]
             exact h1)
           clear HFND hR' hO' HLS
           go_wp2_with fail
           refine Met.intro ?_
           go_step
           refine frame_fill ?_ (by kernel_rfl)
           exact ⟨HK50.out, HG.out⟩
       have n6 : (oK == 6) = false := by rw [beq_eq_false_iff_ne]; exact e6
       clear e0 e1 e2 e3 e5 e6
       have HG := Lib.hid (show ULs w0 (k + 1) [] (.pointer (some ⟨y, 0, none⟩)) (.slice ra l.length rcap) w6 from
        ⟨d, j, t, b, u, st, mp, y, _, ra, rcap, l, S, rfl, rfl, by have := HL.out; omega, HREL.out, HS0.out, H6.out.next.more⟩)
       clear H6 HPV
       go_wp2_with fail
       refine Met.intro ?_
       go_step
       refine frame_fill ?_ (by kernel_rfl)
       exact ⟨HK50.out, HG.out⟩
    ·have HG := Lib.hid hH.keeps
     clear hH hR hS0
     have j2 : ¬ (k : Int) < len := by omega
     go_wp2_with fail
     refine Met.intro ?_
     go_step
     refine frame_fill ?_ (by kernel_rfl)
     exact HG.out
 case rest0 =>
  intro _ wc hinv
  obtain ⟨f, hcut, ha⟩ := hinv
  subst ha
  go_wp2_with fail
  go_ret
  exact ⟨rfl, hcut⟩
end Go.Proofs.YtlcnhpjggjgnpaaGreatDoor
