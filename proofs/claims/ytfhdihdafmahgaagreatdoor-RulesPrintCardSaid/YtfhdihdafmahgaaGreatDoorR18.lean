import Derived.Test.YtfhdihdafmahgaaGreatDoorR17
set_option linter.unusedVariables false
set_option linter.unusedSimpArgs false
set_option maxRecDepth 1000000
set_option maxHeartbeats 3000000
namespace Go.Proofs.YtfhdihdafmahgaaGreatDoor
open Go.RowKit Rn Tk Np
def headReg:Code→Option Nat
 | .region k _ _=>some k
 | .seq a _=>headReg a
 | _=>none
def codeFrom (r:Nat):Code→Option Code
 | .seq a b=>if headReg a=some r then some (.seq a b) else match codeFrom r a with
  | some c=>some c
  | none=>codeFrom r b
 | .block _ c=>codeFrom r c
 | .loop c=>codeFrom r c
 | .scope c=>codeFrom r c
 | .cond _ a b=>match codeFrom r a with
  | some c=>some c
  | none=>codeFrom r b
 | .region k x y=>if k=r then some (.region k x y) else none
 | _=>none
noncomputable def refTail (r:Nat):Code:=(codeFrom r (Tryz.f66.body.getD .skip)).getD .skip
theorem rt_sign58 {w wc:World} {n cap m:Nat} {A:Option Addr} {i0:Int} {NX:Tok×List Int} {l:List Int} (u2 u3 u5 u7 u8 u9 u10 u11 u12 u13 u14 u15 u16 u17 u18 u19 u20 u21 u22 u23 u24 u25 u26 u27 u28 u29 u30 u31 u32 u33 u34 u35 u36 u37 u38 u39 u40 u41 u42 u43 u44 u45 u46 u47 u48 u49 u50 u51 u52 u53 u54 u55 u56 u57 u58 u59 u60 u61 u62 u63 u64 u65 u66 u67 u68 u69 u70 u71 u72 u73 u74 u75 u76 u77 u78 u79 u80 u81 u82 u83 u84 u85 u86 u87 u88 u89 u90 u91 u92 u93 u94 u95 u96 u97 u98 u99 u100 u101 u102 u103 u104 u105 u106 u107 u108 u109 u110 u111 u112 u113 u114 u115 u116 u117 u118 u119 u120 u121 u122 u123 u124 u125 u126 u127 u128 u129 u130 u131 u132 u133 u134 u135 u136 u137 u138 u139 u140 u141 u142 u143 u144 u145 u146 u147 u148 u149 u150 u151 u152 u153 u154 u155 u156 u157 u158 u159 u160 u161 u162 u163 u164 u165 u166 u167 u168 u169 u170 u171 u172 u173 u174 u175 u176 u177 u178 u179 u180 u181 u182 u183 u184 u185 u186 u187 u188 u189 u190 u191 u192 u193 u194 u195 u196 u197 u198:Value)
  (Hi0:Hid (i0=m)) (y1:(0:Int)≤i0) (y4:i0≤1000000) (hm:m<n) (Hres:Hid (NX=(⟨14,[],0⟩,l.drop (m+1)))) (R1:RowAt wc w.heap.size [.int .i64 0,.string ⟨#[]⟩,.int .i64 0]) (B1:Below w.heap.size w wc) :
  Code.wp Tryz.prog (refTail 27) (bodyPost Tryz.prog Tryz.f66 fun e w'=>(∃ k':Nat,m<k'∧k'≤n∧l.drop k'=NX.2∧e=.returned (.tuple #[tokV NX.1,.int .i64 (k':Int)]))∧Below w.heap.size w w') ⟨(List.toArray (Value.slice A n cap::Value.int .i64 i0::u2::u3::Value.pointer (some ⟨w.heap.size,0,none⟩)::u5::Value.int .i64 58::u7::u8::u9::u10::u11::u12::u13::u14::u15::u16::u17::u18::u19::u20::u21::u22::u23::u24::u25::u26::u27::u28::u29::u30::u31::u32::u33::u34::u35::u36::u37::u38::u39::u40::u41::u42::u43::u44::u45::u46::u47::u48::u49::u50::u51::u52::u53::u54::u55::u56::u57::u58::u59::u60::u61::u62::u63::u64::u65::u66::u67::u68::u69::u70::u71::u72::u73::u74::u75::u76::u77::u78::u79::u80::u81::u82::u83::u84::u85::u86::u87::u88::u89::u90::u91::u92::u93::u94::u95::u96::u97::u98::u99::u100::u101::u102::u103::u104::u105::u106::u107::u108::u109::u110::u111::u112::u113::u114::u115::u116::u117::u118::u119::u120::u121::u122::u123::u124::u125::u126::u127::u128::u129::u130::u131::u132::u133::u134::u135::u136::u137::u138::u139::u140::u141::u142::u143::u144::u145::u146::u147::u148::u149::u150::u151::u152::u153::u154::u155::u156::u157::u158::u159::u160::u161::u162::u163::u164::u165::u166::u167::u168::u169::u170::u171::u172::u173::u174::u175::u176::u177::u178::u179::u180::u181::u182::u183::u184::u185::u186::u187::u188::u189::u190::u191::u192::u193::u194::u195::u196::u197::u198::[])),[]⟩ wc:=by
 conv=>arg 2;whnf
 obtain⟨x0,z0⟩:=R1.2 0 _ rfl;obtain⟨x1,z1⟩:=R1.2 1 _ rfl;obtain⟨x2,z2⟩:=R1.2 2 _ rfl;have hfin:=((R1.store 0 (.int .i64 14)).store 1 (.string ⟨#[]⟩)).store 2 (.int .i64 0);have B99:=below_set (below_set (below_set B1 0 (.int .i64 14)) 1 (.string ⟨#[]⟩)) 2 (.int .i64 0)
 go_wp2_with fail
 (try simp only[Exit.inBlock,Exit.then])
 refine bodyPost_ret (results_tok2 rfl _ _ _ _ _ _ rfl hfin) rfl ?_
 exact⟨⟨m+1,by omega,by omega,by rw[Hres.out],by rw[Hres.out];exact ret2i (by have:=Hi0.out;push_cast;omega)⟩,B99⟩
theorem rt_sign59 {w wc:World} {n cap m:Nat} {A:Option Addr} {i0:Int} {NX:Tok×List Int} {l:List Int} (u2 u3 u5 u7 u8 u9 u10 u11 u12 u13 u14 u15 u16 u17 u18 u19 u20 u21 u22 u23 u24 u25 u26 u27 u28 u29 u30 u31 u32 u33 u34 u35 u36 u37 u38 u39 u40 u41 u42 u43 u44 u45 u46 u47 u48 u49 u50 u51 u52 u53 u54 u55 u56 u57 u58 u59 u60 u61 u62 u63 u64 u65 u66 u67 u68 u69 u70 u71 u72 u73 u74 u75 u76 u77 u78 u79 u80 u81 u82 u83 u84 u85 u86 u87 u88 u89 u90 u91 u92 u93 u94 u95 u96 u97 u98 u99 u100 u101 u102 u103 u104 u105 u106 u107 u108 u109 u110 u111 u112 u113 u114 u115 u116 u117 u118 u119 u120 u121 u122 u123 u124 u125 u126 u127 u128 u129 u130 u131 u132 u133 u134 u135 u136 u137 u138 u139 u140 u141 u142 u143 u144 u145 u146 u147 u148 u149 u150 u151 u152 u153 u154 u155 u156 u157 u158 u159 u160 u161 u162 u163 u164 u165 u166 u167 u168 u169 u170 u171 u172 u173 u174 u175 u176 u177 u178 u179 u180 u181 u182 u183 u184 u185 u186 u187 u188 u189 u190 u191 u192 u193 u194 u195 u196 u197 u198:Value)
  (Hi0:Hid (i0=m)) (y1:(0:Int)≤i0) (y4:i0≤1000000) (hm:m<n) (Hres:Hid (NX=(⟨15,[],0⟩,l.drop (m+1)))) (R1:RowAt wc w.heap.size [.int .i64 0,.string ⟨#[]⟩,.int .i64 0]) (B1:Below w.heap.size w wc) :
  Code.wp Tryz.prog (refTail 27) (bodyPost Tryz.prog Tryz.f66 fun e w'=>(∃ k':Nat,m<k'∧k'≤n∧l.drop k'=NX.2∧e=.returned (.tuple #[tokV NX.1,.int .i64 (k':Int)]))∧Below w.heap.size w w') ⟨(List.toArray (Value.slice A n cap::Value.int .i64 i0::u2::u3::Value.pointer (some ⟨w.heap.size,0,none⟩)::u5::Value.int .i64 59::u7::u8::u9::u10::u11::u12::u13::u14::u15::u16::u17::u18::u19::u20::u21::u22::u23::u24::u25::u26::u27::u28::u29::u30::u31::u32::u33::u34::u35::u36::u37::u38::u39::u40::u41::u42::u43::u44::u45::u46::u47::u48::u49::u50::u51::u52::u53::u54::u55::u56::u57::u58::u59::u60::u61::u62::u63::u64::u65::u66::u67::u68::u69::u70::u71::u72::u73::u74::u75::u76::u77::u78::u79::u80::u81::u82::u83::u84::u85::u86::u87::u88::u89::u90::u91::u92::u93::u94::u95::u96::u97::u98::u99::u100::u101::u102::u103::u104::u105::u106::u107::u108::u109::u110::u111::u112::u113::u114::u115::u116::u117::u118::u119::u120::u121::u122::u123::u124::u125::u126::u127::u128::u129::u130::u131::u132::u133::u134::u135::u136::u137::u138::u139::u140::u141::u142::u143::u144::u145::u146::u147::u148::u149::u150::u151::u152::u153::u154::u155::u156::u157::u158::u159::u160::u161::u162::u163::u164::u165::u166::u167::u168::u169::u170::u171::u172::u173::u174::u175::u176::u177::u178::u179::u180::u181::u182::u183::u184::u185::u186::u187::u188::u189::u190::u191::u192::u193::u194::u195::u196::u197::u198::[])),[]⟩ wc:=by
 conv=>arg 2;whnf
 obtain⟨x0,z0⟩:=R1.2 0 _ rfl;obtain⟨x1,z1⟩:=R1.2 1 _ rfl;obtain⟨x2,z2⟩:=R1.2 2 _ rfl;have hfin:=((R1.store 0 (.int .i64 15)).store 1 (.string ⟨#[]⟩)).store 2 (.int .i64 0);have B99:=below_set (below_set (below_set B1 0 (.int .i64 15)) 1 (.string ⟨#[]⟩)) 2 (.int .i64 0)
 go_wp2_with fail
 (try simp only[Exit.inBlock,Exit.then])
 refine bodyPost_ret (results_tok2 rfl _ _ _ _ _ _ rfl hfin) rfl ?_
 exact⟨⟨m+1,by omega,by omega,by rw[Hres.out],by rw[Hres.out];exact ret2i (by have:=Hi0.out;push_cast;omega)⟩,B99⟩
theorem rt_sign44 {w wc:World} {n cap m:Nat} {A:Option Addr} {i0:Int} {NX:Tok×List Int} {l:List Int} (u2 u3 u5 u7 u8 u9 u10 u11 u12 u13 u14 u15 u16 u17 u18 u19 u20 u21 u22 u23 u24 u25 u26 u27 u28 u29 u30 u31 u32 u33 u34 u35 u36 u37 u38 u39 u40 u41 u42 u43 u44 u45 u46 u47 u48 u49 u50 u51 u52 u53 u54 u55 u56 u57 u58 u59 u60 u61 u62 u63 u64 u65 u66 u67 u68 u69 u70 u71 u72 u73 u74 u75 u76 u77 u78 u79 u80 u81 u82 u83 u84 u85 u86 u87 u88 u89 u90 u91 u92 u93 u94 u95 u96 u97 u98 u99 u100 u101 u102 u103 u104 u105 u106 u107 u108 u109 u110 u111 u112 u113 u114 u115 u116 u117 u118 u119 u120 u121 u122 u123 u124 u125 u126 u127 u128 u129 u130 u131 u132 u133 u134 u135 u136 u137 u138 u139 u140 u141 u142 u143 u144 u145 u146 u147 u148 u149 u150 u151 u152 u153 u154 u155 u156 u157 u158 u159 u160 u161 u162 u163 u164 u165 u166 u167 u168 u169 u170 u171 u172 u173 u174 u175 u176 u177 u178 u179 u180 u181 u182 u183 u184 u185 u186 u187 u188 u189 u190 u191 u192 u193 u194 u195 u196 u197 u198:Value)
  (Hi0:Hid (i0=m)) (y1:(0:Int)≤i0) (y4:i0≤1000000) (hm:m<n) (Hres:Hid (NX=(⟨16,[],0⟩,l.drop (m+1)))) (R1:RowAt wc w.heap.size [.int .i64 0,.string ⟨#[]⟩,.int .i64 0]) (B1:Below w.heap.size w wc) :
  Code.wp Tryz.prog (refTail 27) (bodyPost Tryz.prog Tryz.f66 fun e w'=>(∃ k':Nat,m<k'∧k'≤n∧l.drop k'=NX.2∧e=.returned (.tuple #[tokV NX.1,.int .i64 (k':Int)]))∧Below w.heap.size w w') ⟨(List.toArray (Value.slice A n cap::Value.int .i64 i0::u2::u3::Value.pointer (some ⟨w.heap.size,0,none⟩)::u5::Value.int .i64 44::u7::u8::u9::u10::u11::u12::u13::u14::u15::u16::u17::u18::u19::u20::u21::u22::u23::u24::u25::u26::u27::u28::u29::u30::u31::u32::u33::u34::u35::u36::u37::u38::u39::u40::u41::u42::u43::u44::u45::u46::u47::u48::u49::u50::u51::u52::u53::u54::u55::u56::u57::u58::u59::u60::u61::u62::u63::u64::u65::u66::u67::u68::u69::u70::u71::u72::u73::u74::u75::u76::u77::u78::u79::u80::u81::u82::u83::u84::u85::u86::u87::u88::u89::u90::u91::u92::u93::u94::u95::u96::u97::u98::u99::u100::u101::u102::u103::u104::u105::u106::u107::u108::u109::u110::u111::u112::u113::u114::u115::u116::u117::u118::u119::u120::u121::u122::u123::u124::u125::u126::u127::u128::u129::u130::u131::u132::u133::u134::u135::u136::u137::u138::u139::u140::u141::u142::u143::u144::u145::u146::u147::u148::u149::u150::u151::u152::u153::u154::u155::u156::u157::u158::u159::u160::u161::u162::u163::u164::u165::u166::u167::u168::u169::u170::u171::u172::u173::u174::u175::u176::u177::u178::u179::u180::u181::u182::u183::u184::u185::u186::u187::u188::u189::u190::u191::u192::u193::u194::u195::u196::u197::u198::[])),[]⟩ wc:=by
 conv=>arg 2;whnf
 obtain⟨x0,z0⟩:=R1.2 0 _ rfl;obtain⟨x1,z1⟩:=R1.2 1 _ rfl;obtain⟨x2,z2⟩:=R1.2 2 _ rfl;have hfin:=((R1.store 0 (.int .i64 16)).store 1 (.string ⟨#[]⟩)).store 2 (.int .i64 0);have B99:=below_set (below_set (below_set B1 0 (.int .i64 16)) 1 (.string ⟨#[]⟩)) 2 (.int .i64 0)
 go_wp2_with fail
 (try simp only[Exit.inBlock,Exit.then])
 refine bodyPost_ret (results_tok2 rfl _ _ _ _ _ _ rfl hfin) rfl ?_
 exact⟨⟨m+1,by omega,by omega,by rw[Hres.out],by rw[Hres.out];exact ret2i (by have:=Hi0.out;push_cast;omega)⟩,B99⟩
theorem rt_sign40 {w wc:World} {n cap m:Nat} {A:Option Addr} {i0:Int} {NX:Tok×List Int} {l:List Int} (u2 u3 u5 u7 u8 u9 u10 u11 u12 u13 u14 u15 u16 u17 u18 u19 u20 u21 u22 u23 u24 u25 u26 u27 u28 u29 u30 u31 u32 u33 u34 u35 u36 u37 u38 u39 u40 u41 u42 u43 u44 u45 u46 u47 u48 u49 u50 u51 u52 u53 u54 u55 u56 u57 u58 u59 u60 u61 u62 u63 u64 u65 u66 u67 u68 u69 u70 u71 u72 u73 u74 u75 u76 u77 u78 u79 u80 u81 u82 u83 u84 u85 u86 u87 u88 u89 u90 u91 u92 u93 u94 u95 u96 u97 u98 u99 u100 u101 u102 u103 u104 u105 u106 u107 u108 u109 u110 u111 u112 u113 u114 u115 u116 u117 u118 u119 u120 u121 u122 u123 u124 u125 u126 u127 u128 u129 u130 u131 u132 u133 u134 u135 u136 u137 u138 u139 u140 u141 u142 u143 u144 u145 u146 u147 u148 u149 u150 u151 u152 u153 u154 u155 u156 u157 u158 u159 u160 u161 u162 u163 u164 u165 u166 u167 u168 u169 u170 u171 u172 u173 u174 u175 u176 u177 u178 u179 u180 u181 u182 u183 u184 u185 u186 u187 u188 u189 u190 u191 u192 u193 u194 u195 u196 u197 u198:Value)
  (Hi0:Hid (i0=m)) (y1:(0:Int)≤i0) (y4:i0≤1000000) (hm:m<n) (Hres:Hid (NX=(⟨12,writeP [40],0⟩,l.drop (m+1)))) (hcB:isB 40=true)  (R1:RowAt wc w.heap.size [.int .i64 0,.string ⟨#[]⟩,.int .i64 0]) (B1:Below w.heap.size w wc) :
  Code.wp Tryz.prog (refTail 27) (bodyPost Tryz.prog Tryz.f66 fun e w'=>(∃ k':Nat,m<k'∧k'≤n∧l.drop k'=NX.2∧e=.returned (.tuple #[tokV NX.1,.int .i64 (k':Int)]))∧Below w.heap.size w w') ⟨(List.toArray (Value.slice A n cap::Value.int .i64 i0::u2::u3::Value.pointer (some ⟨w.heap.size,0,none⟩)::u5::Value.int .i64 40::u7::u8::u9::u10::u11::u12::u13::u14::u15::u16::u17::u18::u19::u20::u21::u22::u23::u24::u25::u26::u27::u28::u29::u30::u31::u32::u33::u34::u35::u36::u37::u38::u39::u40::u41::u42::u43::u44::u45::u46::u47::u48::u49::u50::u51::u52::u53::u54::u55::u56::u57::u58::u59::u60::u61::u62::u63::u64::u65::u66::u67::u68::u69::u70::u71::u72::u73::u74::u75::u76::u77::u78::u79::u80::u81::u82::u83::u84::u85::u86::u87::u88::u89::u90::u91::u92::u93::u94::u95::u96::u97::u98::u99::u100::u101::u102::u103::u104::u105::u106::u107::u108::u109::u110::u111::u112::u113::u114::u115::u116::u117::u118::u119::u120::u121::u122::u123::u124::u125::u126::u127::u128::u129::u130::u131::u132::u133::u134::u135::u136::u137::u138::u139::u140::u141::u142::u143::u144::u145::u146::u147::u148::u149::u150::u151::u152::u153::u154::u155::u156::u157::u158::u159::u160::u161::u162::u163::u164::u165::u166::u167::u168::u169::u170::u171::u172::u173::u174::u175::u176::u177::u178::u179::u180::u181::u182::u183::u184::u185::u186::u187::u188::u189::u190::u191::u192::u193::u194::u195::u196::u197::u198::[])),[]⟩ wc:=by
 conv=>arg 2;whnf
 have htx:=rt_text (own_one wc 40 wc.heap.size (Nat.le_refl _)) (by intro x hx;simp at hx;subst hx;exact hcB) (by simp);have hb3:Below wc.heap.size wc (wc.alloc (.cells #[.int .i64 40] 3)):=grown_below (World.grownBy_alloc _ _ _);have R2:=row_below R1 hb3;have B2:=B1.trans (hb3.mono B1.size);clear hb3
 go_wp2_with fail
 refine htx.mono ?_
 rintro e3 w3 ⟨rfl,hb4⟩;have R3:=row_below R2 hb4;have B3:=B2.trans (hb4.mono B2.size);obtain⟨x0,z0⟩:=R3.2 0 _ rfl;obtain⟨x1,z1⟩:=R3.2 1 _ rfl;obtain⟨x2,z2⟩:=R3.2 2 _ rfl;have hfin:=((R3.store 0 (.int .i64 12)).store 1 (.string (bytesOf (writeP [40])))).store 2 (.int .i64 0);have B99:=below_set (below_set (below_set B3 0 (.int .i64 12)) 1 (.string (bytesOf (writeP [40])))) 2 (.int .i64 0)
 go_wp2_with fail
 (try simp only[Exit.inBlock,Exit.then])
 refine bodyPost_ret (results_tok2 rfl _ _ _ _ _ _ rfl hfin) rfl ?_
 exact⟨⟨m+1,by omega,by omega,by rw[Hres.out],by rw[Hres.out];exact ret2i (by have:=Hi0.out;push_cast;omega)⟩,B99⟩
theorem rt_sign91 {w wc:World} {n cap m:Nat} {A:Option Addr} {i0:Int} {NX:Tok×List Int} {l:List Int} (u2 u3 u5 u7 u8 u9 u10 u11 u12 u13 u14 u15 u16 u17 u18 u19 u20 u21 u22 u23 u24 u25 u26 u27 u28 u29 u30 u31 u32 u33 u34 u35 u36 u37 u38 u39 u40 u41 u42 u43 u44 u45 u46 u47 u48 u49 u50 u51 u52 u53 u54 u55 u56 u57 u58 u59 u60 u61 u62 u63 u64 u65 u66 u67 u68 u69 u70 u71 u72 u73 u74 u75 u76 u77 u78 u79 u80 u81 u82 u83 u84 u85 u86 u87 u88 u89 u90 u91 u92 u93 u94 u95 u96 u97 u98 u99 u100 u101 u102 u103 u104 u105 u106 u107 u108 u109 u110 u111 u112 u113 u114 u115 u116 u117 u118 u119 u120 u121 u122 u123 u124 u125 u126 u127 u128 u129 u130 u131 u132 u133 u134 u135 u136 u137 u138 u139 u140 u141 u142 u143 u144 u145 u146 u147 u148 u149 u150 u151 u152 u153 u154 u155 u156 u157 u158 u159 u160 u161 u162 u163 u164 u165 u166 u167 u168 u169 u170 u171 u172 u173 u174 u175 u176 u177 u178 u179 u180 u181 u182 u183 u184 u185 u186 u187 u188 u189 u190 u191 u192 u193 u194 u195 u196 u197 u198:Value)
  (Hi0:Hid (i0=m)) (y1:(0:Int)≤i0) (y4:i0≤1000000) (hm:m<n) (Hres:Hid (NX=(⟨12,writeP [91],0⟩,l.drop (m+1)))) (hcB:isB 91=true)  (R1:RowAt wc w.heap.size [.int .i64 0,.string ⟨#[]⟩,.int .i64 0]) (B1:Below w.heap.size w wc) :
  Code.wp Tryz.prog (refTail 27) (bodyPost Tryz.prog Tryz.f66 fun e w'=>(∃ k':Nat,m<k'∧k'≤n∧l.drop k'=NX.2∧e=.returned (.tuple #[tokV NX.1,.int .i64 (k':Int)]))∧Below w.heap.size w w') ⟨(List.toArray (Value.slice A n cap::Value.int .i64 i0::u2::u3::Value.pointer (some ⟨w.heap.size,0,none⟩)::u5::Value.int .i64 91::u7::u8::u9::u10::u11::u12::u13::u14::u15::u16::u17::u18::u19::u20::u21::u22::u23::u24::u25::u26::u27::u28::u29::u30::u31::u32::u33::u34::u35::u36::u37::u38::u39::u40::u41::u42::u43::u44::u45::u46::u47::u48::u49::u50::u51::u52::u53::u54::u55::u56::u57::u58::u59::u60::u61::u62::u63::u64::u65::u66::u67::u68::u69::u70::u71::u72::u73::u74::u75::u76::u77::u78::u79::u80::u81::u82::u83::u84::u85::u86::u87::u88::u89::u90::u91::u92::u93::u94::u95::u96::u97::u98::u99::u100::u101::u102::u103::u104::u105::u106::u107::u108::u109::u110::u111::u112::u113::u114::u115::u116::u117::u118::u119::u120::u121::u122::u123::u124::u125::u126::u127::u128::u129::u130::u131::u132::u133::u134::u135::u136::u137::u138::u139::u140::u141::u142::u143::u144::u145::u146::u147::u148::u149::u150::u151::u152::u153::u154::u155::u156::u157::u158::u159::u160::u161::u162::u163::u164::u165::u166::u167::u168::u169::u170::u171::u172::u173::u174::u175::u176::u177::u178::u179::u180::u181::u182::u183::u184::u185::u186::u187::u188::u189::u190::u191::u192::u193::u194::u195::u196::u197::u198::[])),[]⟩ wc:=by
 conv=>arg 2;whnf
 have htx:=rt_text (own_one wc 91 wc.heap.size (Nat.le_refl _)) (by intro x hx;simp at hx;subst hx;exact hcB) (by simp);have hb3:Below wc.heap.size wc (wc.alloc (.cells #[.int .i64 91] 3)):=grown_below (World.grownBy_alloc _ _ _);have R2:=row_below R1 hb3;have B2:=B1.trans (hb3.mono B1.size);clear hb3
 go_wp2_with fail
 refine htx.mono ?_
 rintro e3 w3 ⟨rfl,hb4⟩;have R3:=row_below R2 hb4;have B3:=B2.trans (hb4.mono B2.size);obtain⟨x0,z0⟩:=R3.2 0 _ rfl;obtain⟨x1,z1⟩:=R3.2 1 _ rfl;obtain⟨x2,z2⟩:=R3.2 2 _ rfl;have hfin:=((R3.store 0 (.int .i64 12)).store 1 (.string (bytesOf (writeP [91])))).store 2 (.int .i64 0);have B99:=below_set (below_set (below_set B3 0 (.int .i64 12)) 1 (.string (bytesOf (writeP [91])))) 2 (.int .i64 0)
 go_wp2_with fail
 (try simp only[Exit.inBlock,Exit.then])
 refine bodyPost_ret (results_tok2 rfl _ _ _ _ _ _ rfl hfin) rfl ?_
 exact⟨⟨m+1,by omega,by omega,by rw[Hres.out],by rw[Hres.out];exact ret2i (by have:=Hi0.out;push_cast;omega)⟩,B99⟩
theorem rt_sign123 {w wc:World} {n cap m:Nat} {A:Option Addr} {i0:Int} {NX:Tok×List Int} {l:List Int} (u2 u3 u5 u7 u8 u9 u10 u11 u12 u13 u14 u15 u16 u17 u18 u19 u20 u21 u22 u23 u24 u25 u26 u27 u28 u29 u30 u31 u32 u33 u34 u35 u36 u37 u38 u39 u40 u41 u42 u43 u44 u45 u46 u47 u48 u49 u50 u51 u52 u53 u54 u55 u56 u57 u58 u59 u60 u61 u62 u63 u64 u65 u66 u67 u68 u69 u70 u71 u72 u73 u74 u75 u76 u77 u78 u79 u80 u81 u82 u83 u84 u85 u86 u87 u88 u89 u90 u91 u92 u93 u94 u95 u96 u97 u98 u99 u100 u101 u102 u103 u104 u105 u106 u107 u108 u109 u110 u111 u112 u113 u114 u115 u116 u117 u118 u119 u120 u121 u122 u123 u124 u125 u126 u127 u128 u129 u130 u131 u132 u133 u134 u135 u136 u137 u138 u139 u140 u141 u142 u143 u144 u145 u146 u147 u148 u149 u150 u151 u152 u153 u154 u155 u156 u157 u158 u159 u160 u161 u162 u163 u164 u165 u166 u167 u168 u169 u170 u171 u172 u173 u174 u175 u176 u177 u178 u179 u180 u181 u182 u183 u184 u185 u186 u187 u188 u189 u190 u191 u192 u193 u194 u195 u196 u197 u198:Value)
  (Hi0:Hid (i0=m)) (y1:(0:Int)≤i0) (y4:i0≤1000000) (hm:m<n) (Hres:Hid (NX=(⟨12,writeP [123],0⟩,l.drop (m+1)))) (hcB:isB 123=true)  (R1:RowAt wc w.heap.size [.int .i64 0,.string ⟨#[]⟩,.int .i64 0]) (B1:Below w.heap.size w wc) :
  Code.wp Tryz.prog (refTail 27) (bodyPost Tryz.prog Tryz.f66 fun e w'=>(∃ k':Nat,m<k'∧k'≤n∧l.drop k'=NX.2∧e=.returned (.tuple #[tokV NX.1,.int .i64 (k':Int)]))∧Below w.heap.size w w') ⟨(List.toArray (Value.slice A n cap::Value.int .i64 i0::u2::u3::Value.pointer (some ⟨w.heap.size,0,none⟩)::u5::Value.int .i64 123::u7::u8::u9::u10::u11::u12::u13::u14::u15::u16::u17::u18::u19::u20::u21::u22::u23::u24::u25::u26::u27::u28::u29::u30::u31::u32::u33::u34::u35::u36::u37::u38::u39::u40::u41::u42::u43::u44::u45::u46::u47::u48::u49::u50::u51::u52::u53::u54::u55::u56::u57::u58::u59::u60::u61::u62::u63::u64::u65::u66::u67::u68::u69::u70::u71::u72::u73::u74::u75::u76::u77::u78::u79::u80::u81::u82::u83::u84::u85::u86::u87::u88::u89::u90::u91::u92::u93::u94::u95::u96::u97::u98::u99::u100::u101::u102::u103::u104::u105::u106::u107::u108::u109::u110::u111::u112::u113::u114::u115::u116::u117::u118::u119::u120::u121::u122::u123::u124::u125::u126::u127::u128::u129::u130::u131::u132::u133::u134::u135::u136::u137::u138::u139::u140::u141::u142::u143::u144::u145::u146::u147::u148::u149::u150::u151::u152::u153::u154::u155::u156::u157::u158::u159::u160::u161::u162::u163::u164::u165::u166::u167::u168::u169::u170::u171::u172::u173::u174::u175::u176::u177::u178::u179::u180::u181::u182::u183::u184::u185::u186::u187::u188::u189::u190::u191::u192::u193::u194::u195::u196::u197::u198::[])),[]⟩ wc:=by
 conv=>arg 2;whnf
 have htx:=rt_text (own_one wc 123 wc.heap.size (Nat.le_refl _)) (by intro x hx;simp at hx;subst hx;exact hcB) (by simp);have hb3:Below wc.heap.size wc (wc.alloc (.cells #[.int .i64 123] 3)):=grown_below (World.grownBy_alloc _ _ _);have R2:=row_below R1 hb3;have B2:=B1.trans (hb3.mono B1.size);clear hb3
 go_wp2_with fail
 refine htx.mono ?_
 rintro e3 w3 ⟨rfl,hb4⟩;have R3:=row_below R2 hb4;have B3:=B2.trans (hb4.mono B2.size);obtain⟨x0,z0⟩:=R3.2 0 _ rfl;obtain⟨x1,z1⟩:=R3.2 1 _ rfl;obtain⟨x2,z2⟩:=R3.2 2 _ rfl;have hfin:=((R3.store 0 (.int .i64 12)).store 1 (.string (bytesOf (writeP [123])))).store 2 (.int .i64 0);have B99:=below_set (below_set (below_set B3 0 (.int .i64 12)) 1 (.string (bytesOf (writeP [123])))) 2 (.int .i64 0)
 go_wp2_with fail
 (try simp only[Exit.inBlock,Exit.then])
 refine bodyPost_ret (results_tok2 rfl _ _ _ _ _ _ rfl hfin) rfl ?_
 exact⟨⟨m+1,by omega,by omega,by rw[Hres.out],by rw[Hres.out];exact ret2i (by have:=Hi0.out;push_cast;omega)⟩,B99⟩
theorem rt_sign41 {w wc:World} {n cap m:Nat} {A:Option Addr} {i0:Int} {NX:Tok×List Int} {l:List Int} (u2 u3 u5 u7 u8 u9 u10 u11 u12 u13 u14 u15 u16 u17 u18 u19 u20 u21 u22 u23 u24 u25 u26 u27 u28 u29 u30 u31 u32 u33 u34 u35 u36 u37 u38 u39 u40 u41 u42 u43 u44 u45 u46 u47 u48 u49 u50 u51 u52 u53 u54 u55 u56 u57 u58 u59 u60 u61 u62 u63 u64 u65 u66 u67 u68 u69 u70 u71 u72 u73 u74 u75 u76 u77 u78 u79 u80 u81 u82 u83 u84 u85 u86 u87 u88 u89 u90 u91 u92 u93 u94 u95 u96 u97 u98 u99 u100 u101 u102 u103 u104 u105 u106 u107 u108 u109 u110 u111 u112 u113 u114 u115 u116 u117 u118 u119 u120 u121 u122 u123 u124 u125 u126 u127 u128 u129 u130 u131 u132 u133 u134 u135 u136 u137 u138 u139 u140 u141 u142 u143 u144 u145 u146 u147 u148 u149 u150 u151 u152 u153 u154 u155 u156 u157 u158 u159 u160 u161 u162 u163 u164 u165 u166 u167 u168 u169 u170 u171 u172 u173 u174 u175 u176 u177 u178 u179 u180 u181 u182 u183 u184 u185 u186 u187 u188 u189 u190 u191 u192 u193 u194 u195 u196 u197 u198:Value)
  (Hi0:Hid (i0=m)) (y1:(0:Int)≤i0) (y4:i0≤1000000) (hm:m<n) (Hres:Hid (NX=(⟨13,writeP [41],0⟩,l.drop (m+1)))) (hcB:isB 41=true)  (R1:RowAt wc w.heap.size [.int .i64 0,.string ⟨#[]⟩,.int .i64 0]) (B1:Below w.heap.size w wc) :
  Code.wp Tryz.prog (refTail 27) (bodyPost Tryz.prog Tryz.f66 fun e w'=>(∃ k':Nat,m<k'∧k'≤n∧l.drop k'=NX.2∧e=.returned (.tuple #[tokV NX.1,.int .i64 (k':Int)]))∧Below w.heap.size w w') ⟨(List.toArray (Value.slice A n cap::Value.int .i64 i0::u2::u3::Value.pointer (some ⟨w.heap.size,0,none⟩)::u5::Value.int .i64 41::u7::u8::u9::u10::u11::u12::u13::u14::u15::u16::u17::u18::u19::u20::u21::u22::u23::u24::u25::u26::u27::u28::u29::u30::u31::u32::u33::u34::u35::u36::u37::u38::u39::u40::u41::u42::u43::u44::u45::u46::u47::u48::u49::u50::u51::u52::u53::u54::u55::u56::u57::u58::u59::u60::u61::u62::u63::u64::u65::u66::u67::u68::u69::u70::u71::u72::u73::u74::u75::u76::u77::u78::u79::u80::u81::u82::u83::u84::u85::u86::u87::u88::u89::u90::u91::u92::u93::u94::u95::u96::u97::u98::u99::u100::u101::u102::u103::u104::u105::u106::u107::u108::u109::u110::u111::u112::u113::u114::u115::u116::u117::u118::u119::u120::u121::u122::u123::u124::u125::u126::u127::u128::u129::u130::u131::u132::u133::u134::u135::u136::u137::u138::u139::u140::u141::u142::u143::u144::u145::u146::u147::u148::u149::u150::u151::u152::u153::u154::u155::u156::u157::u158::u159::u160::u161::u162::u163::u164::u165::u166::u167::u168::u169::u170::u171::u172::u173::u174::u175::u176::u177::u178::u179::u180::u181::u182::u183::u184::u185::u186::u187::u188::u189::u190::u191::u192::u193::u194::u195::u196::u197::u198::[])),[]⟩ wc:=by
 conv=>arg 2;whnf
 have htx:=rt_text (own_one wc 41 wc.heap.size (Nat.le_refl _)) (by intro x hx;simp at hx;subst hx;exact hcB) (by simp);have hb3:Below wc.heap.size wc (wc.alloc (.cells #[.int .i64 41] 3)):=grown_below (World.grownBy_alloc _ _ _);have R2:=row_below R1 hb3;have B2:=B1.trans (hb3.mono B1.size);clear hb3
 go_wp2_with fail
 refine htx.mono ?_
 rintro e3 w3 ⟨rfl,hb4⟩;have R3:=row_below R2 hb4;have B3:=B2.trans (hb4.mono B2.size);obtain⟨x0,z0⟩:=R3.2 0 _ rfl;obtain⟨x1,z1⟩:=R3.2 1 _ rfl;obtain⟨x2,z2⟩:=R3.2 2 _ rfl;have hfin:=((R3.store 0 (.int .i64 13)).store 1 (.string (bytesOf (writeP [41])))).store 2 (.int .i64 0);have B99:=below_set (below_set (below_set B3 0 (.int .i64 13)) 1 (.string (bytesOf (writeP [41])))) 2 (.int .i64 0)
 go_wp2_with fail
 (try simp only[Exit.inBlock,Exit.then])
 refine bodyPost_ret (results_tok2 rfl _ _ _ _ _ _ rfl hfin) rfl ?_
 exact⟨⟨m+1,by omega,by omega,by rw[Hres.out],by rw[Hres.out];exact ret2i (by have:=Hi0.out;push_cast;omega)⟩,B99⟩
theorem rt_sign93 {w wc:World} {n cap m:Nat} {A:Option Addr} {i0:Int} {NX:Tok×List Int} {l:List Int} (u2 u3 u5 u7 u8 u9 u10 u11 u12 u13 u14 u15 u16 u17 u18 u19 u20 u21 u22 u23 u24 u25 u26 u27 u28 u29 u30 u31 u32 u33 u34 u35 u36 u37 u38 u39 u40 u41 u42 u43 u44 u45 u46 u47 u48 u49 u50 u51 u52 u53 u54 u55 u56 u57 u58 u59 u60 u61 u62 u63 u64 u65 u66 u67 u68 u69 u70 u71 u72 u73 u74 u75 u76 u77 u78 u79 u80 u81 u82 u83 u84 u85 u86 u87 u88 u89 u90 u91 u92 u93 u94 u95 u96 u97 u98 u99 u100 u101 u102 u103 u104 u105 u106 u107 u108 u109 u110 u111 u112 u113 u114 u115 u116 u117 u118 u119 u120 u121 u122 u123 u124 u125 u126 u127 u128 u129 u130 u131 u132 u133 u134 u135 u136 u137 u138 u139 u140 u141 u142 u143 u144 u145 u146 u147 u148 u149 u150 u151 u152 u153 u154 u155 u156 u157 u158 u159 u160 u161 u162 u163 u164 u165 u166 u167 u168 u169 u170 u171 u172 u173 u174 u175 u176 u177 u178 u179 u180 u181 u182 u183 u184 u185 u186 u187 u188 u189 u190 u191 u192 u193 u194 u195 u196 u197 u198:Value)
  (Hi0:Hid (i0=m)) (y1:(0:Int)≤i0) (y4:i0≤1000000) (hm:m<n) (Hres:Hid (NX=(⟨13,writeP [93],0⟩,l.drop (m+1)))) (hcB:isB 93=true)  (R1:RowAt wc w.heap.size [.int .i64 0,.string ⟨#[]⟩,.int .i64 0]) (B1:Below w.heap.size w wc) :
  Code.wp Tryz.prog (refTail 27) (bodyPost Tryz.prog Tryz.f66 fun e w'=>(∃ k':Nat,m<k'∧k'≤n∧l.drop k'=NX.2∧e=.returned (.tuple #[tokV NX.1,.int .i64 (k':Int)]))∧Below w.heap.size w w') ⟨(List.toArray (Value.slice A n cap::Value.int .i64 i0::u2::u3::Value.pointer (some ⟨w.heap.size,0,none⟩)::u5::Value.int .i64 93::u7::u8::u9::u10::u11::u12::u13::u14::u15::u16::u17::u18::u19::u20::u21::u22::u23::u24::u25::u26::u27::u28::u29::u30::u31::u32::u33::u34::u35::u36::u37::u38::u39::u40::u41::u42::u43::u44::u45::u46::u47::u48::u49::u50::u51::u52::u53::u54::u55::u56::u57::u58::u59::u60::u61::u62::u63::u64::u65::u66::u67::u68::u69::u70::u71::u72::u73::u74::u75::u76::u77::u78::u79::u80::u81::u82::u83::u84::u85::u86::u87::u88::u89::u90::u91::u92::u93::u94::u95::u96::u97::u98::u99::u100::u101::u102::u103::u104::u105::u106::u107::u108::u109::u110::u111::u112::u113::u114::u115::u116::u117::u118::u119::u120::u121::u122::u123::u124::u125::u126::u127::u128::u129::u130::u131::u132::u133::u134::u135::u136::u137::u138::u139::u140::u141::u142::u143::u144::u145::u146::u147::u148::u149::u150::u151::u152::u153::u154::u155::u156::u157::u158::u159::u160::u161::u162::u163::u164::u165::u166::u167::u168::u169::u170::u171::u172::u173::u174::u175::u176::u177::u178::u179::u180::u181::u182::u183::u184::u185::u186::u187::u188::u189::u190::u191::u192::u193::u194::u195::u196::u197::u198::[])),[]⟩ wc:=by
 conv=>arg 2;whnf
 have htx:=rt_text (own_one wc 93 wc.heap.size (Nat.le_refl _)) (by intro x hx;simp at hx;subst hx;exact hcB) (by simp);have hb3:Below wc.heap.size wc (wc.alloc (.cells #[.int .i64 93] 3)):=grown_below (World.grownBy_alloc _ _ _);have R2:=row_below R1 hb3;have B2:=B1.trans (hb3.mono B1.size);clear hb3
 go_wp2_with fail
 refine htx.mono ?_
 rintro e3 w3 ⟨rfl,hb4⟩;have R3:=row_below R2 hb4;have B3:=B2.trans (hb4.mono B2.size);obtain⟨x0,z0⟩:=R3.2 0 _ rfl;obtain⟨x1,z1⟩:=R3.2 1 _ rfl;obtain⟨x2,z2⟩:=R3.2 2 _ rfl;have hfin:=((R3.store 0 (.int .i64 13)).store 1 (.string (bytesOf (writeP [93])))).store 2 (.int .i64 0);have B99:=below_set (below_set (below_set B3 0 (.int .i64 13)) 1 (.string (bytesOf (writeP [93])))) 2 (.int .i64 0)
 go_wp2_with fail
 (try simp only[Exit.inBlock,Exit.then])
 refine bodyPost_ret (results_tok2 rfl _ _ _ _ _ _ rfl hfin) rfl ?_
 exact⟨⟨m+1,by omega,by omega,by rw[Hres.out],by rw[Hres.out];exact ret2i (by have:=Hi0.out;push_cast;omega)⟩,B99⟩
theorem rt_sign125 {w wc:World} {n cap m:Nat} {A:Option Addr} {i0:Int} {NX:Tok×List Int} {l:List Int} (u2 u3 u5 u7 u8 u9 u10 u11 u12 u13 u14 u15 u16 u17 u18 u19 u20 u21 u22 u23 u24 u25 u26 u27 u28 u29 u30 u31 u32 u33 u34 u35 u36 u37 u38 u39 u40 u41 u42 u43 u44 u45 u46 u47 u48 u49 u50 u51 u52 u53 u54 u55 u56 u57 u58 u59 u60 u61 u62 u63 u64 u65 u66 u67 u68 u69 u70 u71 u72 u73 u74 u75 u76 u77 u78 u79 u80 u81 u82 u83 u84 u85 u86 u87 u88 u89 u90 u91 u92 u93 u94 u95 u96 u97 u98 u99 u100 u101 u102 u103 u104 u105 u106 u107 u108 u109 u110 u111 u112 u113 u114 u115 u116 u117 u118 u119 u120 u121 u122 u123 u124 u125 u126 u127 u128 u129 u130 u131 u132 u133 u134 u135 u136 u137 u138 u139 u140 u141 u142 u143 u144 u145 u146 u147 u148 u149 u150 u151 u152 u153 u154 u155 u156 u157 u158 u159 u160 u161 u162 u163 u164 u165 u166 u167 u168 u169 u170 u171 u172 u173 u174 u175 u176 u177 u178 u179 u180 u181 u182 u183 u184 u185 u186 u187 u188 u189 u190 u191 u192 u193 u194 u195 u196 u197 u198:Value)
  (Hi0:Hid (i0=m)) (y1:(0:Int)≤i0) (y4:i0≤1000000) (hm:m<n) (Hres:Hid (NX=(⟨13,writeP [125],0⟩,l.drop (m+1)))) (hcB:isB 125=true)  (R1:RowAt wc w.heap.size [.int .i64 0,.string ⟨#[]⟩,.int .i64 0]) (B1:Below w.heap.size w wc) :
  Code.wp Tryz.prog (refTail 27) (bodyPost Tryz.prog Tryz.f66 fun e w'=>(∃ k':Nat,m<k'∧k'≤n∧l.drop k'=NX.2∧e=.returned (.tuple #[tokV NX.1,.int .i64 (k':Int)]))∧Below w.heap.size w w') ⟨(List.toArray (Value.slice A n cap::Value.int .i64 i0::u2::u3::Value.pointer (some ⟨w.heap.size,0,none⟩)::u5::Value.int .i64 125::u7::u8::u9::u10::u11::u12::u13::u14::u15::u16::u17::u18::u19::u20::u21::u22::u23::u24::u25::u26::u27::u28::u29::u30::u31::u32::u33::u34::u35::u36::u37::u38::u39::u40::u41::u42::u43::u44::u45::u46::u47::u48::u49::u50::u51::u52::u53::u54::u55::u56::u57::u58::u59::u60::u61::u62::u63::u64::u65::u66::u67::u68::u69::u70::u71::u72::u73::u74::u75::u76::u77::u78::u79::u80::u81::u82::u83::u84::u85::u86::u87::u88::u89::u90::u91::u92::u93::u94::u95::u96::u97::u98::u99::u100::u101::u102::u103::u104::u105::u106::u107::u108::u109::u110::u111::u112::u113::u114::u115::u116::u117::u118::u119::u120::u121::u122::u123::u124::u125::u126::u127::u128::u129::u130::u131::u132::u133::u134::u135::u136::u137::u138::u139::u140::u141::u142::u143::u144::u145::u146::u147::u148::u149::u150::u151::u152::u153::u154::u155::u156::u157::u158::u159::u160::u161::u162::u163::u164::u165::u166::u167::u168::u169::u170::u171::u172::u173::u174::u175::u176::u177::u178::u179::u180::u181::u182::u183::u184::u185::u186::u187::u188::u189::u190::u191::u192::u193::u194::u195::u196::u197::u198::[])),[]⟩ wc:=by
 conv=>arg 2;whnf
 have htx:=rt_text (own_one wc 125 wc.heap.size (Nat.le_refl _)) (by intro x hx;simp at hx;subst hx;exact hcB) (by simp);have hb3:Below wc.heap.size wc (wc.alloc (.cells #[.int .i64 125] 3)):=grown_below (World.grownBy_alloc _ _ _);have R2:=row_below R1 hb3;have B2:=B1.trans (hb3.mono B1.size);clear hb3
 go_wp2_with fail
 refine htx.mono ?_
 rintro e3 w3 ⟨rfl,hb4⟩;have R3:=row_below R2 hb4;have B3:=B2.trans (hb4.mono B2.size);obtain⟨x0,z0⟩:=R3.2 0 _ rfl;obtain⟨x1,z1⟩:=R3.2 1 _ rfl;obtain⟨x2,z2⟩:=R3.2 2 _ rfl;have hfin:=((R3.store 0 (.int .i64 13)).store 1 (.string (bytesOf (writeP [125])))).store 2 (.int .i64 0);have B99:=below_set (below_set (below_set B3 0 (.int .i64 13)) 1 (.string (bytesOf (writeP [125])))) 2 (.int .i64 0)
 go_wp2_with fail
 (try simp only[Exit.inBlock,Exit.then])
 refine bodyPost_ret (results_tok2 rfl _ _ _ _ _ _ rfl hfin) rfl ?_
 exact⟨⟨m+1,by omega,by omega,by rw[Hres.out],by rw[Hres.out];exact ret2i (by have:=Hi0.out;push_cast;omega)⟩,B99⟩
theorem rt_signX {w wc:World} {c:Int} {n cap m:Nat} {A:Option Addr} {i0:Int} {NX:Tok×List Int} {l:List Int} (u2 u3 u5 u7 u8 u9 u10 u11 u12 u13 u14 u15 u16 u17 u18 u19 u20 u21 u22 u23 u24 u25 u26 u27 u28 u29 u30 u31 u32 u33 u34 u35 u36 u37 u38 u39 u40 u41 u42 u43 u44 u45 u46 u47 u48 u49 u50 u51 u52 u53 u54 u55 u56 u57 u58 u59 u60 u61 u62 u63 u64 u65 u66 u67 u68 u69 u70 u71 u72 u73 u74 u75 u76 u77 u78 u79 u80 u81 u82 u83 u84 u85 u86 u87 u88 u89 u90 u91 u92 u93 u94 u95 u96 u97 u98 u99 u100 u101 u102 u103 u104 u105 u106 u107 u108 u109 u110 u111 u112 u113 u114 u115 u116 u117 u118 u119 u120 u121 u122 u123 u124 u125 u126 u127 u128 u129 u130 u131 u132 u133 u134 u135 u136 u137 u138 u139 u140 u141 u142 u143 u144 u145 u146 u147 u148 u149 u150 u151 u152 u153 u154 u155 u156 u157 u158 u159 u160 u161 u162 u163 u164 u165 u166 u167 u168 u169 u170 u171 u172 u173 u174 u175 u176 u177 u178 u179 u180 u181 u182 u183 u184 u185 u186 u187 u188 u189 u190 u191 u192 u193 u194 u195 u196 u197 u198:Value)
  (Hi0:Hid (i0=m)) (y1:(0:Int)≤i0) (y4:i0≤1000000) (hm:m<n) (Hres:Hid (NX=(⟨11,writeP [c],0⟩,l.drop (m+1)))) (hcB:isB c=true) (t58:(c==58)=false) (t59:(c==59)=false) (t44:(c==44)=false) (t40:(c==40)=false) (t91:(c==91)=false) (t123:(c==123)=false) (t41:(c==41)=false) (t93:(c==93)=false) (t125:(c==125)=false) (R1:RowAt wc w.heap.size [.int .i64 0,.string ⟨#[]⟩,.int .i64 0]) (B1:Below w.heap.size w wc) :
  Code.wp Tryz.prog (refTail 27) (bodyPost Tryz.prog Tryz.f66 fun e w'=>(∃ k':Nat,m<k'∧k'≤n∧l.drop k'=NX.2∧e=.returned (.tuple #[tokV NX.1,.int .i64 (k':Int)]))∧Below w.heap.size w w') ⟨(List.toArray (Value.slice A n cap::Value.int .i64 i0::u2::u3::Value.pointer (some ⟨w.heap.size,0,none⟩)::u5::Value.int .i64 c::u7::u8::u9::u10::u11::u12::u13::u14::u15::u16::u17::u18::u19::u20::u21::u22::u23::u24::u25::u26::u27::u28::u29::u30::u31::u32::u33::u34::u35::u36::u37::u38::u39::u40::u41::u42::u43::u44::u45::u46::u47::u48::u49::u50::u51::u52::u53::u54::u55::u56::u57::u58::u59::u60::u61::u62::u63::u64::u65::u66::u67::u68::u69::u70::u71::u72::u73::u74::u75::u76::u77::u78::u79::u80::u81::u82::u83::u84::u85::u86::u87::u88::u89::u90::u91::u92::u93::u94::u95::u96::u97::u98::u99::u100::u101::u102::u103::u104::u105::u106::u107::u108::u109::u110::u111::u112::u113::u114::u115::u116::u117::u118::u119::u120::u121::u122::u123::u124::u125::u126::u127::u128::u129::u130::u131::u132::u133::u134::u135::u136::u137::u138::u139::u140::u141::u142::u143::u144::u145::u146::u147::u148::u149::u150::u151::u152::u153::u154::u155::u156::u157::u158::u159::u160::u161::u162::u163::u164::u165::u166::u167::u168::u169::u170::u171::u172::u173::u174::u175::u176::u177::u178::u179::u180::u181::u182::u183::u184::u185::u186::u187::u188::u189::u190::u191::u192::u193::u194::u195::u196::u197::u198::[])),[]⟩ wc:=by
 conv=>arg 2;whnf
 have htx:=rt_text (own_one wc c wc.heap.size (Nat.le_refl _)) (by intro x hx;simp at hx;subst hx;exact hcB) (by simp);have hb3:Below wc.heap.size wc (wc.alloc (.cells #[.int .i64 c] 3)):=grown_below (World.grownBy_alloc _ _ _);have R2:=row_below R1 hb3;have B2:=B1.trans (hb3.mono B1.size);clear hb3
 go_wp2_with fail
 refine htx.mono ?_
 rintro e3 w3 ⟨rfl,hb4⟩;have R3:=row_below R2 hb4;have B3:=B2.trans (hb4.mono B2.size);obtain⟨x0,z0⟩:=R3.2 0 _ rfl;obtain⟨x1,z1⟩:=R3.2 1 _ rfl;obtain⟨x2,z2⟩:=R3.2 2 _ rfl;have hfin:=((R3.store 0 (.int .i64 11)).store 1 (.string (bytesOf (writeP [c])))).store 2 (.int .i64 0);have B99:=below_set (below_set (below_set B3 0 (.int .i64 11)) 1 (.string (bytesOf (writeP [c])))) 2 (.int .i64 0)
 go_wp2_with fail
 (try simp only[Exit.inBlock,Exit.then])
 refine bodyPost_ret (results_tok2 rfl _ _ _ _ _ _ rfl hfin) rfl ?_
 exact⟨⟨m+1,by omega,by omega,by rw[Hres.out],by rw[Hres.out];exact ret2i (by have:=Hi0.out;push_cast;omega)⟩,B99⟩
theorem rt_signs {w wc:World} {c:Int} {n cap m:Nat} {A:Option Addr} {i0:Int} {NX:Tok×List Int} {l:List Int} (u2 u3 u5 u7 u8 u9 u10 u11 u12 u13 u14 u15 u16 u17 u18 u19 u20 u21 u22 u23 u24 u25 u26 u27 u28 u29 u30 u31 u32 u33 u34 u35 u36 u37 u38 u39 u40 u41 u42 u43 u44 u45 u46 u47 u48 u49 u50 u51 u52 u53 u54 u55 u56 u57 u58 u59 u60 u61 u62 u63 u64 u65 u66 u67 u68 u69 u70 u71 u72 u73 u74 u75 u76 u77 u78 u79 u80 u81 u82 u83 u84 u85 u86 u87 u88 u89 u90 u91 u92 u93 u94 u95 u96 u97 u98 u99 u100 u101 u102 u103 u104 u105 u106 u107 u108 u109 u110 u111 u112 u113 u114 u115 u116 u117 u118 u119 u120 u121 u122 u123 u124 u125 u126 u127 u128 u129 u130 u131 u132 u133 u134 u135 u136 u137 u138 u139 u140 u141 u142 u143 u144 u145 u146 u147 u148 u149 u150 u151 u152 u153 u154 u155 u156 u157 u158 u159 u160 u161 u162 u163 u164 u165 u166 u167 u168 u169 u170 u171 u172 u173 u174 u175 u176 u177 u178 u179 u180 u181 u182 u183 u184 u185 u186 u187 u188 u189 u190 u191 u192 u193 u194 u195 u196 u197 u198:Value)
    (Hi0:Hid (i0=m)) (y1:(0:Int)≤i0) (y4:i0≤1000000) (hm:m<n) (Hres:Hid (NX=(signT c,l.drop (m+1)))) (hcB:isB c=true) (R1:RowAt wc w.heap.size [.int .i64 0,.string ⟨#[]⟩,.int .i64 0]) (B1:Below w.heap.size w wc) :
  Code.wp Tryz.prog (refTail 27) (bodyPost Tryz.prog Tryz.f66 fun e w'=>(∃ k':Nat,m<k'∧k'≤n∧l.drop k'=NX.2∧e=.returned (.tuple #[tokV NX.1,.int .i64 (k':Int)]))∧Below w.heap.size w w') ⟨(List.toArray (Value.slice A n cap::Value.int .i64 i0::u2::u3::Value.pointer (some ⟨w.heap.size,0,none⟩)::u5::Value.int .i64 c::u7::u8::u9::u10::u11::u12::u13::u14::u15::u16::u17::u18::u19::u20::u21::u22::u23::u24::u25::u26::u27::u28::u29::u30::u31::u32::u33::u34::u35::u36::u37::u38::u39::u40::u41::u42::u43::u44::u45::u46::u47::u48::u49::u50::u51::u52::u53::u54::u55::u56::u57::u58::u59::u60::u61::u62::u63::u64::u65::u66::u67::u68::u69::u70::u71::u72::u73::u74::u75::u76::u77::u78::u79::u80::u81::u82::u83::u84::u85::u86::u87::u88::u89::u90::u91::u92::u93::u94::u95::u96::u97::u98::u99::u100::u101::u102::u103::u104::u105::u106::u107::u108::u109::u110::u111::u112::u113::u114::u115::u116::u117::u118::u119::u120::u121::u122::u123::u124::u125::u126::u127::u128::u129::u130::u131::u132::u133::u134::u135::u136::u137::u138::u139::u140::u141::u142::u143::u144::u145::u146::u147::u148::u149::u150::u151::u152::u153::u154::u155::u156::u157::u158::u159::u160::u161::u162::u163::u164::u165::u166::u167::u168::u169::u170::u171::u172::u173::u174::u175::u176::u177::u178::u179::u180::u181::u182::u183::u184::u185::u186::u187::u188::u189::u190::u191::u192::u193::u194::u195::u196::u197::u198::[])),[]⟩ wc:=by
 by_cases h58:c=58
 ·subst h58
  exact rt_sign58 u2 u3 u5 u7 u8 u9 u10 u11 u12 u13 u14 u15 u16 u17 u18 u19 u20 u21 u22 u23 u24 u25 u26 u27 u28 u29 u30 u31 u32 u33 u34 u35 u36 u37 u38 u39 u40 u41 u42 u43 u44 u45 u46 u47 u48 u49 u50 u51 u52 u53 u54 u55 u56 u57 u58 u59 u60 u61 u62 u63 u64 u65 u66 u67 u68 u69 u70 u71 u72 u73 u74 u75 u76 u77 u78 u79 u80 u81 u82 u83 u84 u85 u86 u87 u88 u89 u90 u91 u92 u93 u94 u95 u96 u97 u98 u99 u100 u101 u102 u103 u104 u105 u106 u107 u108 u109 u110 u111 u112 u113 u114 u115 u116 u117 u118 u119 u120 u121 u122 u123 u124 u125 u126 u127 u128 u129 u130 u131 u132 u133 u134 u135 u136 u137 u138 u139 u140 u141 u142 u143 u144 u145 u146 u147 u148 u149 u150 u151 u152 u153 u154 u155 u156 u157 u158 u159 u160 u161 u162 u163 u164 u165 u166 u167 u168 u169 u170 u171 u172 u173 u174 u175 u176 u177 u178 u179 u180 u181 u182 u183 u184 u185 u186 u187 u188 u189 u190 u191 u192 u193 u194 u195 u196 u197 u198 Hi0 y1 y4 hm (by show _=_;rw[Hres.out];rfl) R1 B1
 by_cases h59:c=59
 ·subst h59
  exact rt_sign59 u2 u3 u5 u7 u8 u9 u10 u11 u12 u13 u14 u15 u16 u17 u18 u19 u20 u21 u22 u23 u24 u25 u26 u27 u28 u29 u30 u31 u32 u33 u34 u35 u36 u37 u38 u39 u40 u41 u42 u43 u44 u45 u46 u47 u48 u49 u50 u51 u52 u53 u54 u55 u56 u57 u58 u59 u60 u61 u62 u63 u64 u65 u66 u67 u68 u69 u70 u71 u72 u73 u74 u75 u76 u77 u78 u79 u80 u81 u82 u83 u84 u85 u86 u87 u88 u89 u90 u91 u92 u93 u94 u95 u96 u97 u98 u99 u100 u101 u102 u103 u104 u105 u106 u107 u108 u109 u110 u111 u112 u113 u114 u115 u116 u117 u118 u119 u120 u121 u122 u123 u124 u125 u126 u127 u128 u129 u130 u131 u132 u133 u134 u135 u136 u137 u138 u139 u140 u141 u142 u143 u144 u145 u146 u147 u148 u149 u150 u151 u152 u153 u154 u155 u156 u157 u158 u159 u160 u161 u162 u163 u164 u165 u166 u167 u168 u169 u170 u171 u172 u173 u174 u175 u176 u177 u178 u179 u180 u181 u182 u183 u184 u185 u186 u187 u188 u189 u190 u191 u192 u193 u194 u195 u196 u197 u198 Hi0 y1 y4 hm (by show _=_;rw[Hres.out];rfl) R1 B1
 by_cases h44:c=44
 ·subst h44
  exact rt_sign44 u2 u3 u5 u7 u8 u9 u10 u11 u12 u13 u14 u15 u16 u17 u18 u19 u20 u21 u22 u23 u24 u25 u26 u27 u28 u29 u30 u31 u32 u33 u34 u35 u36 u37 u38 u39 u40 u41 u42 u43 u44 u45 u46 u47 u48 u49 u50 u51 u52 u53 u54 u55 u56 u57 u58 u59 u60 u61 u62 u63 u64 u65 u66 u67 u68 u69 u70 u71 u72 u73 u74 u75 u76 u77 u78 u79 u80 u81 u82 u83 u84 u85 u86 u87 u88 u89 u90 u91 u92 u93 u94 u95 u96 u97 u98 u99 u100 u101 u102 u103 u104 u105 u106 u107 u108 u109 u110 u111 u112 u113 u114 u115 u116 u117 u118 u119 u120 u121 u122 u123 u124 u125 u126 u127 u128 u129 u130 u131 u132 u133 u134 u135 u136 u137 u138 u139 u140 u141 u142 u143 u144 u145 u146 u147 u148 u149 u150 u151 u152 u153 u154 u155 u156 u157 u158 u159 u160 u161 u162 u163 u164 u165 u166 u167 u168 u169 u170 u171 u172 u173 u174 u175 u176 u177 u178 u179 u180 u181 u182 u183 u184 u185 u186 u187 u188 u189 u190 u191 u192 u193 u194 u195 u196 u197 u198 Hi0 y1 y4 hm (by show _=_;rw[Hres.out];rfl) R1 B1
 by_cases h40:c=40
 ·subst h40
  exact rt_sign40 u2 u3 u5 u7 u8 u9 u10 u11 u12 u13 u14 u15 u16 u17 u18 u19 u20 u21 u22 u23 u24 u25 u26 u27 u28 u29 u30 u31 u32 u33 u34 u35 u36 u37 u38 u39 u40 u41 u42 u43 u44 u45 u46 u47 u48 u49 u50 u51 u52 u53 u54 u55 u56 u57 u58 u59 u60 u61 u62 u63 u64 u65 u66 u67 u68 u69 u70 u71 u72 u73 u74 u75 u76 u77 u78 u79 u80 u81 u82 u83 u84 u85 u86 u87 u88 u89 u90 u91 u92 u93 u94 u95 u96 u97 u98 u99 u100 u101 u102 u103 u104 u105 u106 u107 u108 u109 u110 u111 u112 u113 u114 u115 u116 u117 u118 u119 u120 u121 u122 u123 u124 u125 u126 u127 u128 u129 u130 u131 u132 u133 u134 u135 u136 u137 u138 u139 u140 u141 u142 u143 u144 u145 u146 u147 u148 u149 u150 u151 u152 u153 u154 u155 u156 u157 u158 u159 u160 u161 u162 u163 u164 u165 u166 u167 u168 u169 u170 u171 u172 u173 u174 u175 u176 u177 u178 u179 u180 u181 u182 u183 u184 u185 u186 u187 u188 u189 u190 u191 u192 u193 u194 u195 u196 u197 u198 Hi0 y1 y4 hm (by show _=_;rw[Hres.out];rfl) hcB R1 B1
 by_cases h91:c=91
 ·subst h91
  exact rt_sign91 u2 u3 u5 u7 u8 u9 u10 u11 u12 u13 u14 u15 u16 u17 u18 u19 u20 u21 u22 u23 u24 u25 u26 u27 u28 u29 u30 u31 u32 u33 u34 u35 u36 u37 u38 u39 u40 u41 u42 u43 u44 u45 u46 u47 u48 u49 u50 u51 u52 u53 u54 u55 u56 u57 u58 u59 u60 u61 u62 u63 u64 u65 u66 u67 u68 u69 u70 u71 u72 u73 u74 u75 u76 u77 u78 u79 u80 u81 u82 u83 u84 u85 u86 u87 u88 u89 u90 u91 u92 u93 u94 u95 u96 u97 u98 u99 u100 u101 u102 u103 u104 u105 u106 u107 u108 u109 u110 u111 u112 u113 u114 u115 u116 u117 u118 u119 u120 u121 u122 u123 u124 u125 u126 u127 u128 u129 u130 u131 u132 u133 u134 u135 u136 u137 u138 u139 u140 u141 u142 u143 u144 u145 u146 u147 u148 u149 u150 u151 u152 u153 u154 u155 u156 u157 u158 u159 u160 u161 u162 u163 u164 u165 u166 u167 u168 u169 u170 u171 u172 u173 u174 u175 u176 u177 u178 u179 u180 u181 u182 u183 u184 u185 u186 u187 u188 u189 u190 u191 u192 u193 u194 u195 u196 u197 u198 Hi0 y1 y4 hm (by show _=_;rw[Hres.out];rfl) hcB R1 B1
 by_cases h123:c=123
 ·subst h123
  exact rt_sign123 u2 u3 u5 u7 u8 u9 u10 u11 u12 u13 u14 u15 u16 u17 u18 u19 u20 u21 u22 u23 u24 u25 u26 u27 u28 u29 u30 u31 u32 u33 u34 u35 u36 u37 u38 u39 u40 u41 u42 u43 u44 u45 u46 u47 u48 u49 u50 u51 u52 u53 u54 u55 u56 u57 u58 u59 u60 u61 u62 u63 u64 u65 u66 u67 u68 u69 u70 u71 u72 u73 u74 u75 u76 u77 u78 u79 u80 u81 u82 u83 u84 u85 u86 u87 u88 u89 u90 u91 u92 u93 u94 u95 u96 u97 u98 u99 u100 u101 u102 u103 u104 u105 u106 u107 u108 u109 u110 u111 u112 u113 u114 u115 u116 u117 u118 u119 u120 u121 u122 u123 u124 u125 u126 u127 u128 u129 u130 u131 u132 u133 u134 u135 u136 u137 u138 u139 u140 u141 u142 u143 u144 u145 u146 u147 u148 u149 u150 u151 u152 u153 u154 u155 u156 u157 u158 u159 u160 u161 u162 u163 u164 u165 u166 u167 u168 u169 u170 u171 u172 u173 u174 u175 u176 u177 u178 u179 u180 u181 u182 u183 u184 u185 u186 u187 u188 u189 u190 u191 u192 u193 u194 u195 u196 u197 u198 Hi0 y1 y4 hm (by show _=_;rw[Hres.out];rfl) hcB R1 B1
 by_cases h41:c=41
 ·subst h41
  exact rt_sign41 u2 u3 u5 u7 u8 u9 u10 u11 u12 u13 u14 u15 u16 u17 u18 u19 u20 u21 u22 u23 u24 u25 u26 u27 u28 u29 u30 u31 u32 u33 u34 u35 u36 u37 u38 u39 u40 u41 u42 u43 u44 u45 u46 u47 u48 u49 u50 u51 u52 u53 u54 u55 u56 u57 u58 u59 u60 u61 u62 u63 u64 u65 u66 u67 u68 u69 u70 u71 u72 u73 u74 u75 u76 u77 u78 u79 u80 u81 u82 u83 u84 u85 u86 u87 u88 u89 u90 u91 u92 u93 u94 u95 u96 u97 u98 u99 u100 u101 u102 u103 u104 u105 u106 u107 u108 u109 u110 u111 u112 u113 u114 u115 u116 u117 u118 u119 u120 u121 u122 u123 u124 u125 u126 u127 u128 u129 u130 u131 u132 u133 u134 u135 u136 u137 u138 u139 u140 u141 u142 u143 u144 u145 u146 u147 u148 u149 u150 u151 u152 u153 u154 u155 u156 u157 u158 u159 u160 u161 u162 u163 u164 u165 u166 u167 u168 u169 u170 u171 u172 u173 u174 u175 u176 u177 u178 u179 u180 u181 u182 u183 u184 u185 u186 u187 u188 u189 u190 u191 u192 u193 u194 u195 u196 u197 u198 Hi0 y1 y4 hm (by show _=_;rw[Hres.out];rfl) hcB R1 B1
 by_cases h93:c=93
 ·subst h93
  exact rt_sign93 u2 u3 u5 u7 u8 u9 u10 u11 u12 u13 u14 u15 u16 u17 u18 u19 u20 u21 u22 u23 u24 u25 u26 u27 u28 u29 u30 u31 u32 u33 u34 u35 u36 u37 u38 u39 u40 u41 u42 u43 u44 u45 u46 u47 u48 u49 u50 u51 u52 u53 u54 u55 u56 u57 u58 u59 u60 u61 u62 u63 u64 u65 u66 u67 u68 u69 u70 u71 u72 u73 u74 u75 u76 u77 u78 u79 u80 u81 u82 u83 u84 u85 u86 u87 u88 u89 u90 u91 u92 u93 u94 u95 u96 u97 u98 u99 u100 u101 u102 u103 u104 u105 u106 u107 u108 u109 u110 u111 u112 u113 u114 u115 u116 u117 u118 u119 u120 u121 u122 u123 u124 u125 u126 u127 u128 u129 u130 u131 u132 u133 u134 u135 u136 u137 u138 u139 u140 u141 u142 u143 u144 u145 u146 u147 u148 u149 u150 u151 u152 u153 u154 u155 u156 u157 u158 u159 u160 u161 u162 u163 u164 u165 u166 u167 u168 u169 u170 u171 u172 u173 u174 u175 u176 u177 u178 u179 u180 u181 u182 u183 u184 u185 u186 u187 u188 u189 u190 u191 u192 u193 u194 u195 u196 u197 u198 Hi0 y1 y4 hm (by show _=_;rw[Hres.out];rfl) hcB R1 B1
 by_cases h125:c=125
 ·subst h125
  exact rt_sign125 u2 u3 u5 u7 u8 u9 u10 u11 u12 u13 u14 u15 u16 u17 u18 u19 u20 u21 u22 u23 u24 u25 u26 u27 u28 u29 u30 u31 u32 u33 u34 u35 u36 u37 u38 u39 u40 u41 u42 u43 u44 u45 u46 u47 u48 u49 u50 u51 u52 u53 u54 u55 u56 u57 u58 u59 u60 u61 u62 u63 u64 u65 u66 u67 u68 u69 u70 u71 u72 u73 u74 u75 u76 u77 u78 u79 u80 u81 u82 u83 u84 u85 u86 u87 u88 u89 u90 u91 u92 u93 u94 u95 u96 u97 u98 u99 u100 u101 u102 u103 u104 u105 u106 u107 u108 u109 u110 u111 u112 u113 u114 u115 u116 u117 u118 u119 u120 u121 u122 u123 u124 u125 u126 u127 u128 u129 u130 u131 u132 u133 u134 u135 u136 u137 u138 u139 u140 u141 u142 u143 u144 u145 u146 u147 u148 u149 u150 u151 u152 u153 u154 u155 u156 u157 u158 u159 u160 u161 u162 u163 u164 u165 u166 u167 u168 u169 u170 u171 u172 u173 u174 u175 u176 u177 u178 u179 u180 u181 u182 u183 u184 u185 u186 u187 u188 u189 u190 u191 u192 u193 u194 u195 u196 u197 u198 Hi0 y1 y4 hm (by show _=_;rw[Hres.out];rfl) hcB R1 B1
 exact rt_signX u2 u3 u5 u7 u8 u9 u10 u11 u12 u13 u14 u15 u16 u17 u18 u19 u20 u21 u22 u23 u24 u25 u26 u27 u28 u29 u30 u31 u32 u33 u34 u35 u36 u37 u38 u39 u40 u41 u42 u43 u44 u45 u46 u47 u48 u49 u50 u51 u52 u53 u54 u55 u56 u57 u58 u59 u60 u61 u62 u63 u64 u65 u66 u67 u68 u69 u70 u71 u72 u73 u74 u75 u76 u77 u78 u79 u80 u81 u82 u83 u84 u85 u86 u87 u88 u89 u90 u91 u92 u93 u94 u95 u96 u97 u98 u99 u100 u101 u102 u103 u104 u105 u106 u107 u108 u109 u110 u111 u112 u113 u114 u115 u116 u117 u118 u119 u120 u121 u122 u123 u124 u125 u126 u127 u128 u129 u130 u131 u132 u133 u134 u135 u136 u137 u138 u139 u140 u141 u142 u143 u144 u145 u146 u147 u148 u149 u150 u151 u152 u153 u154 u155 u156 u157 u158 u159 u160 u161 u162 u163 u164 u165 u166 u167 u168 u169 u170 u171 u172 u173 u174 u175 u176 u177 u178 u179 u180 u181 u182 u183 u184 u185 u186 u187 u188 u189 u190 u191 u192 u193 u194 u195 u196 u197 u198 Hi0 y1 y4 hm (by show _=_;rw[Hres.out];unfold signT signK;simp[h58,h59,h44,h40,h91,h123,h41,h93,h125]) hcB (eq_f h58) (eq_f h59) (eq_f h44) (eq_f h40) (eq_f h91) (eq_f h123) (eq_f h41) (eq_f h93) (eq_f h125) R1 B1
theorem rt_tail19 {w wc:World} {c:Int} {B n cap m:Nat} {A:Option Addr} {i0:Int} {NX:Tok×List Int} {l:List Int} (u2 u3 u5 u7 u8 u9 u10 u11 u12 u13 u14 u15 u16 u17 u18 u19 u20 u21 u22 u23 u24 u25 u26 u27 u28 u29 u30 u31 u32 u33 u34 u35 u36 u37 u38 u39 u40 u41 u42 u43 u44 u45 u46 u47 u48 u49 u50 u51 u52 u53 u54 u55 u56 u57 u58 u59 u60 u61 u62 u63 u64 u65 u66 u67 u68 u69 u70 u71 u72 u73 u74 u75 u76 u77 u78 u79 u80 u81 u82 u83 u84 u85 u86 u87 u88 u89 u90 u91 u92 u93 u94 u95 u96 u97 u98 u99 u100 u101 u102 u103 u104 u105 u106 u107 u108 u109 u110 u111 u112 u113 u114 u115 u116 u117 u118 u119 u120 u121 u122 u123 u124 u125 u126 u127 u128 u129 u130 u131 u132 u133 u134 u135 u136 u137 u138 u139 u140 u141 u142 u143 u144 u145 u146 u147 u148 u149 u150 u151 u152 u153 u154 u155 u156 u157 u158 u159 u160 u161 u162 u163 u164 u165 u166 u167 u168 u169 u170 u171 u172 u173 u174 u175 u176 u177 u178 u179 u180 u181 u182 u183 u184 u185 u186 u187 u188 u189 u190 u191 u192 u193 u194 u195 u196 u197 u198:Value)
  (h:RL w B A n cap l) (Hi0:Hid (i0=m)) (y1:(0:Int)≤i0) (y4:i0≤1000000) (hm:m<n) (hcB:isB c=true)
  (Hn3:Hid (NX=if c=64∧beg (l.drop (m+1))=true then (⟨4,writeP (nameT (l.drop (m+1))).1,0⟩,(nameT (l.drop (m+1))).2)
     else if beg (l.drop m)=true then
      if pk (nameT (l.drop m)).2 0=40 then (⟨3,writeP (nameT (l.drop m)).1,0⟩,(nameT (l.drop m)).2.tail) else (⟨2,writeP (nameT (l.drop m)).1,0⟩,(nameT (l.drop m)).2)
     else (signT c,l.drop (m+1))))
  (R1:RowAt wc w.heap.size [.int .i64 0,.string ⟨#[]⟩,.int .i64 0]) (B1:Below w.heap.size w wc) :
  Code.wp Tryz.prog (refTail 19) (bodyPost Tryz.prog Tryz.f66 fun e w'=>(∃ k':Nat,m<k'∧k'≤n∧l.drop k'=NX.2∧e=.returned (.tuple #[tokV NX.1,.int .i64 (k':Int)]))∧Below w.heap.size w w') ⟨(List.toArray (Value.slice A n cap::Value.int .i64 i0::u2::u3::Value.pointer (some ⟨w.heap.size,0,none⟩)::u5::Value.int .i64 c::u7::u8::u9::u10::u11::u12::u13::u14::u15::u16::u17::u18::u19::u20::u21::u22::u23::u24::u25::u26::u27::u28::u29::u30::u31::u32::u33::u34::u35::u36::u37::u38::u39::u40::u41::u42::u43::u44::u45::u46::u47::u48::u49::u50::u51::u52::u53::u54::u55::u56::u57::u58::u59::u60::u61::u62::u63::u64::u65::u66::u67::u68::u69::u70::u71::u72::u73::u74::u75::u76::u77::u78::u79::u80::u81::u82::u83::u84::u85::u86::u87::u88::u89::u90::u91::u92::u93::u94::u95::u96::u97::u98::u99::u100::u101::u102::u103::u104::u105::u106::u107::u108::u109::u110::u111::u112::u113::u114::u115::u116::u117::u118::u119::u120::u121::u122::u123::u124::u125::u126::u127::u128::u129::u130::u131::u132::u133::u134::u135::u136::u137::u138::u139::u140::u141::u142::u143::u144::u145::u146::u147::u148::u149::u150::u151::u152::u153::u154::u155::u156::u157::u158::u159::u160::u161::u162::u163::u164::u165::u166::u167::u168::u169::u170::u171::u172::u173::u174::u175::u176::u177::u178::u179::u180::u181::u182::u183::u184::u185::u186::u187::u188::u189::u190::u191::u192::u193::u194::u195::u196::u197::u198::[])),[]⟩ wc:=by
 conv=>arg 2;whnf
 have hlen:=h.len;have hn:=h.hn;have H1:=h.mv B1;have hcr:=isB_range hcB;have hbg1:=rt_begins H1 (m+1) (i0+1) (by have:=Hi0.out;omega) (by omega);obtain⟨E,hE0⟩:∃ E,decide (c=64∧beg (l.drop (m+1))=true)=E:=⟨_,rfl⟩;have HE:=Lib.hid hE0;clear hE0
 go_upto_region 19 with (fail)
 go_cut [126] (fun x wx=>x=.bool E∧wx=wc)
 case first =>
  by_cases h64:c=64
  ·have t64:=eq_t h64
   have Hv:Hid (E=beg (l.drop (m+1))):=by show _=_;rw[←HE.out,Bool.eq_iff_iff];simp[h64]
   clear h64
   go_wp2_with (go_at_call 105;with_reducible refine hbg1.mono ?_;rintro e2 w' ⟨rfl,rfl⟩)
   go_meet
   exact⟨by rw[Hv.out],rfl⟩
  ·have t64:=eq_f h64
   have Hv:Hid (E=false):=by show _=_;rw[←HE.out];simp[h64]
   clear h64
   go_wp2_with fail
   go_meet
   exact⟨by rw[Hv.out],rfl⟩
 case rest =>
  obtain⟨rfl,hwc⟩:=hcut;subst hwc;clear hbg1
  cases E
  case true =>
   have hcd:=of_decide_eq_true HE.out;have hres:NX=(⟨4,writeP (nameT (l.drop (m+1))).1,0⟩,(nameT (l.drop (m+1))).2):=by rw[Hn3.out,if_pos hcd]
   have hcall:=rt_name H1 (m+1) (i0+1) (by have:=Hi0.out;omega) (by omega);generalize nameT (l.drop (m+1))=NM at *
   have Hres:=Lib.hid hres;clear hres hcd
   go_wp2_with fail
   refine hcall.mono ?_
   rintro e2 w2 ⟨⟨k',hk',hk'n,hd',rfl⟩,hb2⟩;have R2:=row_below R1 hb2;have B2:=B1.trans (hb2.mono B1.size);have H2:=H1.mv hb2;obtain⟨x0,z0⟩:=R2.2 0 _ rfl;obtain⟨x1,z1⟩:=R2.2 1 _ rfl;obtain⟨x2,z2⟩:=R2.2 2 _ rfl;have hfin:=((R2.store 0 (.int .i64 4)).store 1 (.string (bytesOf (writeP NM.1)))).store 2 (.int .i64 0);have B99:=below_set (below_set (below_set B2 0 (.int .i64 4)) 1 (.string (bytesOf (writeP NM.1)))) 2 (.int .i64 0)
   (try unfold tokV)
   go_wp2_with fail
   (try simp only[Exit.inBlock,Exit.then])
   refine bodyPost_ret (results_tok2 rfl _ _ _ _ _ _ rfl hfin) rfl ?_
   exact⟨⟨k',by omega,hk'n,by rw[Hres.out];exact hd',by rw[Hres.out];rfl⟩,B99⟩
  have hn5:=Hn3.out;rw[if_neg (of_decide_eq_false HE.out)] at hn5;have Hn5:=Lib.hid hn5;clear hn5 Hn3 HE;have hbg:=rt_begins H1 m i0 Hi0.out (by omega)
  go_wp2_with fail
  refine hbg.mono ?_
  rintro e2 w2 ⟨rfl,rfl⟩
  go_upto_if 139 with (fail)
  go_cut [1] (fun z wx=>z=.int .i64 i0∧wx=wc∧Hid (beg (l.drop m)=false))
  case rest =>
   obtain⟨rfl,hwc,hb⟩:=hcut;subst hwc;rw[hb.out,if_neg (by simp)] at Hn5
   refine ‹∀ (a:Act) (w:World),Code.wp _ _ _ a w→_› _ _ ?_
   exact rt_signs _ _ _ _ _ _ _ _ _ _ _ _ _ _ _ _ _ _ _ _ _ _ _ _ _ _ _ _ _ _ _ _ _ _ _ _ _ _ _ _ _ _ _ _ _ _ _ _ _ _ _ _ _ _ _ _ _ _ _ _ _ _ _ _ _ _ _ _ _ _ _ _ _ _ _ _ _ _ _ _ _ _ _ _ _ _ _ _ _ _ _ _ _ _ _ _ _ _ _ _ _ _ _ _ _ _ _ _ _ _ _ _ _ _ _ _ _ _ _ _ _ _ _ _ _ _ _ _ _ _ _ _ _ _ _ _ _ _ _ _ _ _ _ _ _ _ _ _ _ _ _ _ _ _ _ _ _ _ _ _ _ _ _ _ _ _ _ _ _ _ _ _ _ _ _ _ _ _ _ _ _ _ _ _ _ _ _ _ _ _ _ _ _ _ _ Hi0 y1 y4 hm Hn5 hcB R1 B1
  cases hb:beg (l.drop m) with
  | true =>
   rw[hb,if_pos rfl] at Hn5;have hlt0:=(name_some (beg_first hb)).1;have hcall:=rt_name H1 m i0 Hi0.out (by omega);generalize nameT (l.drop m)=NM at *
   clear hb
   go_wp2_with fail
   refine hcall.mono ?_
   rintro e3 w3 ⟨⟨k',hk',hk'n,hd',rfl⟩,hb3⟩;have R2:=row_below R1 hb3;have B2:=B1.trans (hb3.mono B1.size);have H2:=H1.mv hb3
   have hkk:m<k':=by
    have h1:=congrArg List.length hd';rw[List.length_drop] at h1 hlt0
    omega
   have hp40:=rt_at H2 k' (k':Int) rfl (by omega);rw[pk0] at hp40;obtain⟨f,hf⟩:∃ f,pk (l.drop k') 0=f:=⟨_,rfl⟩;have hn6:=Hn5.out;rw[←hd',hf] at hn6;rw[hf] at hp40
   have hfl:f=40→k'<n:=fun h40=>by
    have:=pk_pos (l:=l.drop k') (m:=0) (by rw[hf];omega);rw[List.length_drop] at this;omega
   clear hf Hn5 hb3 H1 R1 B1 hlt0 hd'
   go_wp2_with fail
   refine hp40.mono ?_
   rintro e6 w6 ⟨rfl,rfl⟩
   by_cases h40:f=40
   ·rw[if_pos h40,List.tail_drop] at hn6
    have Hres:=Lib.hid hn6;have t40:=eq_t h40;have hlt:=hfl h40;clear h40 hn6 hfl;obtain⟨x0,z0⟩:=R2.2 0 _ rfl;obtain⟨x1,z1⟩:=R2.2 1 _ rfl;obtain⟨x2,z2⟩:=R2.2 2 _ rfl;have hfin:=((R2.store 0 (.int .i64 3)).store 1 (.string (bytesOf (writeP NM.1)))).store 2 (.int .i64 0);have B99:=below_set (below_set (below_set B2 0 (.int .i64 3)) 1 (.string (bytesOf (writeP NM.1)))) 2 (.int .i64 0)
    (try unfold tokV)
    go_wp2_with fail
    (try simp only[Exit.inBlock,Exit.then])
    refine bodyPost_ret (results_tok2 rfl _ _ _ _ _ _ rfl hfin) rfl ?_
    exact⟨⟨k'+1,by omega,by omega,by rw[Hres.out],by rw[Hres.out];exact ret2i (by push_cast;omega)⟩,B99⟩
   ·rw[if_neg h40] at hn6
    have Hres:=Lib.hid hn6;have t40:=eq_f h40;clear h40 hn6 hfl;obtain⟨x0,z0⟩:=R2.2 0 _ rfl;obtain⟨x1,z1⟩:=R2.2 1 _ rfl;obtain⟨x2,z2⟩:=R2.2 2 _ rfl;have hfin:=((R2.store 0 (.int .i64 2)).store 1 (.string (bytesOf (writeP NM.1)))).store 2 (.int .i64 0);have B99:=below_set (below_set (below_set B2 0 (.int .i64 2)) 1 (.string (bytesOf (writeP NM.1)))) 2 (.int .i64 0)
    (try unfold tokV)
    go_wp2_with fail
    (try simp only[Exit.inBlock,Exit.then])
    refine bodyPost_ret (results_tok2 rfl _ _ _ _ _ _ rfl hfin) rfl ?_
    exact⟨⟨k',by omega,by omega,by rw[Hres.out],by rw[Hres.out];rfl⟩,B99⟩
  | false =>
   have hbb:Hid (beg (l.drop m)=false):=hb;clear hb
   go_wp2_with fail
   go_meet
   exact⟨rfl,rfl,hbb⟩
theorem rt_tail7 {w wA:World} {c:Int} {B n cap m:Nat} {A:Option Addr} {i0:Int} {NX:Tok×List Int} {l:List Int} (u2 u3 u5 u7 u8 u9 u10 u11 u12 u13 u14 u15 u16 u17 u18 u19 u20 u21 u22 u23 u24 u25 u26 u27 u28 u29 u30 u31 u32 u33 u34 u35 u36 u37 u38 u39 u40 u41 u42 u43 u44 u45 u46 u47 u48 u49 u50 u51 u52 u53 u54 u55 u56 u57 u58 u59 u60 u61 u62 u63 u64 u65 u66 u67 u68 u69 u70 u71 u72 u73 u74 u75 u76 u77 u78 u79 u80 u81 u82 u83 u84 u85 u86 u87 u88 u89 u90 u91 u92 u93 u94 u95 u96 u97 u98 u99 u100 u101 u102 u103 u104 u105 u106 u107 u108 u109 u110 u111 u112 u113 u114 u115 u116 u117 u118 u119 u120 u121 u122 u123 u124 u125 u126 u127 u128 u129 u130 u131 u132 u133 u134 u135 u136 u137 u138 u139 u140 u141 u142 u143 u144 u145 u146 u147 u148 u149 u150 u151 u152 u153 u154 u155 u156 u157 u158 u159 u160 u161 u162 u163 u164 u165 u166 u167 u168 u169 u170 u171 u172 u173 u174 u175 u176 u177 u178 u179 u180 u181 u182 u183 u184 u185 u186 u187 u188 u189 u190 u191 u192 u193 u194 u195 u196 u197 u198:Value)
  (h:RL w B A n cap l) (Hi0:Hid (i0=m)) (y1:(0:Int)≤i0) (y4:i0≤1000000) (hm:m<n) (hcB:isB c=true) (Hc:Hid (pk (l.drop m) 0=c))
  (Hn2:Hid (NX=match numberT (l.drop m) with
    | some x=>x
    | none =>
     if c=64∧beg (l.drop (m+1))=true then (⟨4,writeP (nameT (l.drop (m+1))).1,0⟩,(nameT (l.drop (m+1))).2)
     else if beg (l.drop m)=true then
      if pk (nameT (l.drop m)).2 0=40 then (⟨3,writeP (nameT (l.drop m)).1,0⟩,(nameT (l.drop m)).2.tail) else (⟨2,writeP (nameT (l.drop m)).1,0⟩,(nameT (l.drop m)).2)
     else (signT c,l.drop (m+1))))
  (R0:RowAt wA w.heap.size [.int .i64 0,.string ⟨#[]⟩,.int .i64 0]) (B0:Below w.heap.size w wA) :
  Code.wp Tryz.prog (refTail 7) (bodyPost Tryz.prog Tryz.f66 fun e w'=>(∃ k':Nat,m<k'∧k'≤n∧l.drop k'=NX.2∧e=.returned (.tuple #[tokV NX.1,.int .i64 (k':Int)]))∧Below w.heap.size w w') ⟨(List.toArray (Value.slice A n cap::Value.int .i64 i0::u2::u3::Value.pointer (some ⟨w.heap.size,0,none⟩)::u5::Value.int .i64 c::u7::u8::u9::u10::u11::u12::u13::u14::u15::u16::u17::u18::u19::u20::u21::u22::u23::u24::u25::u26::u27::u28::u29::u30::u31::u32::u33::u34::u35::u36::u37::u38::u39::u40::u41::u42::u43::u44::u45::u46::u47::u48::u49::u50::u51::u52::u53::u54::u55::u56::u57::u58::u59::u60::u61::u62::u63::u64::u65::u66::u67::u68::u69::u70::u71::u72::u73::u74::u75::u76::u77::u78::u79::u80::u81::u82::u83::u84::u85::u86::u87::u88::u89::u90::u91::u92::u93::u94::u95::u96::u97::u98::u99::u100::u101::u102::u103::u104::u105::u106::u107::u108::u109::u110::u111::u112::u113::u114::u115::u116::u117::u118::u119::u120::u121::u122::u123::u124::u125::u126::u127::u128::u129::u130::u131::u132::u133::u134::u135::u136::u137::u138::u139::u140::u141::u142::u143::u144::u145::u146::u147::u148::u149::u150::u151::u152::u153::u154::u155::u156::u157::u158::u159::u160::u161::u162::u163::u164::u165::u166::u167::u168::u169::u170::u171::u172::u173::u174::u175::u176::u177::u178::u179::u180::u181::u182::u183::u184::u185::u186::u187::u188::u189::u190::u191::u192::u193::u194::u195::u196::u197::u198::[])),[]⟩ wA:=by
 conv=>arg 2;whnf
 have hlen:=h.len;have hn:=h.hn;have H0:=h.mv B0;have hrs:=R0.1;have hcr:=isB_range hcB;have hnn:∀ c∈l.drop m,0≤c:=fun c hc=>(isB_range (h.ch.drop m c hc)).1
 have Hnn:=Lib.hid hnn;clear hnn;obtain⟨NB,hNB⟩:∃ b,numStart c=b:=⟨_,rfl⟩;have HNB:=Lib.hid hNB;clear hNB
 go_upto_region 7 with (fail)
 go_cut [77] (fun x wx=>x=.bool NB∧wx=wA)
 case first =>
  by_cases h43:c=43
  ·have t43:=eq_t h43
   have Hv:Hid (NB=true):=by show _=_;rw[←HNB.out,h43];rfl
   clear h43
   go_wp2_with fail
   go_meet
   exact⟨by rw[Hv.out],rfl⟩
  have t43:=eq_f h43
  by_cases h45:c=45
  ·have t45:=eq_t h45
   have Hv:Hid (NB=true):=by show _=_;rw[←HNB.out,h45];rfl
   clear h43 h45
   go_wp2_with fail
   go_meet
   exact⟨by rw[Hv.out],rfl⟩
  have t45:=eq_f h45
  by_cases h46:c=46
  ·have t46:=eq_t h46
   have Hv:Hid (NB=true):=by show _=_;rw[←HNB.out,h46];rfl
   clear h43 h45 h46
   go_wp2_with fail
   go_meet
   exact⟨by rw[Hv.out],rfl⟩
  have t46:=eq_f h46
  by_cases h48:48≤c
  ·have t48:decide ((48:Int)≤c)=true:=by simpa using h48
   have Hv:Hid (NB=decide (c≤57)):=by show _=_;rw[←HNB.out];unfold numStart;rw[Bool.eq_iff_iff];simp;omega
   clear h43 h45 h46
   go_wp2_with fail
   go_meet
   exact⟨by rw[Hv.out],rfl⟩
  ·have t48:decide ((48:Int)≤c)=false:=by simpa using h48
   have Hv:Hid (NB=false):=by show _=_;rw[←HNB.out];unfold numStart;simp;omega
   clear h43 h45 h46
   go_wp2_with fail
   go_meet
   exact⟨by rw[Hv.out],rfl⟩
 case rest =>
  obtain⟨rfl,hwc⟩:=hcut;have hwc2:=hwc.symm;subst hwc2;clear hwc
  go_upto_if 77 with (fail)
  go_cut [1] (fun z wx=>z=.int .i64 i0∧Hid (numberT (l.drop m)=none)∧RowAt wx w.heap.size [.int .i64 0,.string ⟨#[]⟩,.int .i64 0]∧Below w.heap.size w wx)
  case first =>
   cases NB with
   | false =>
    have hnone:Hid (numberT (l.drop m)=none):=number_none (num_none Hnn.out (by rw[Hc.out];exact HNB.out))
    go_wp2_with fail
    go_meet
    exact⟨rfl,hnone,R0,B0⟩
   | true =>
    have hcall:=rt_ascii H0 m i0 Hi0.out (by omega);obtain⟨hl1,hl2⟩:=len_ascii (l.drop m) Hnn.out;have hXl:=asciiT_len (l.drop m);rw[List.length_drop] at hXl;obtain⟨X,hX⟩:∃ X,asciiT (l.drop m)=X:=⟨_,rfl⟩;obtain⟨N,hN⟩:∃ N,Fx.lenP (numText (l.drop m))=N:=⟨_,rfl⟩;rw[hX] at hcall hl1 hl2 hXl;rw[hN] at hl1 hl2;have hNl:=lenP_le X;rw[hl1] at hNl;have hlc:=fun w'=>rfx_length X w' (by omega)
    rw[hl1] at hlc
    have hnt:numberT (l.drop m)=if N=0 then none else
      if beg (l.drop (m+N))=true then some (⟨10,writeP (nameT (l.drop (m+N))).1,Fx.parseP (X.take N)⟩,(nameT (l.drop (m+N))).2)
      else if pk (l.drop (m+N)) 0=37 then some (⟨9,[],Fx.parseP (X.take N)⟩,(l.drop (m+N)).tail)
      else some (⟨8,[],Fx.parseP (X.take N)⟩,l.drop (m+N)):=by
     unfold numberT;simp only[hN,List.drop_drop,hl2]
    have Hnt:=Lib.hid hnt;have hXl6:X.length≤1000000:=by omega
    clear hnt hX hN hl1 hl2
    go_wp2_with fail
    refine hcall.mono ?_
    rintro e2 w2 ⟨rfl,hb2⟩;have R1:=row_below R0 hb2;have B1:=B0.trans (hb2.mono B0.size);have H1:=H0.mv hb2;clear hcall hb2 H0 R0 B0
    go_wp2_with fail
    refine(hlc w2).mono ?_
    rintro e3 w3 ⟨rfl,rfl⟩
    by_cases hN0:N=0
    ·have hnone:Hid (numberT (l.drop m)=none):=by show _=_;rw[Hnt.out,if_pos hN0]
     have t0:decide ((0:Int)<(N:Int))=false:=by simp;omega
     have t0':decide (0<N)=false:=by simp;omega
     clear hN0
     go_wp2_with fail
     go_meet
     exact⟨rfl,hnone,R1,B1⟩
    ·have t0:decide ((0:Int)<(N:Int))=true:=by simp;omega
     have t0':decide (0<N)=true:=by simp;omega
     have hn4:=Hn2.out;rw[Hnt.out,if_neg hN0] at hn4;have Hn4:=Lib.hid hn4;have hto:=str_to (P:=Tryz.prog) (T:=9) Tryz.underlying9 X .i64 N hNl;have hz1:(0:Int)≤i0+(N:Int):=by omega
     have hz2:i0+(N:Int)≤1000000:=by have:=Hi0.out;omega
     have hpa:=fun w'=>rfx_parse (X.take N) w' (by rw[List.length_take];omega)
     obtain⟨V,hV⟩:∃ V,Fx.parseP (X.take N)=V:=⟨_,rfl⟩;rw[hV] at hpa Hn4;generalize Fx.isP (X.take N)=is at hpa;clear hN0 hn4 Hnt hV
     go_wp2_with fail
     refine(hpa w2).mono ?_
     rintro e4 w4 ⟨rfl,hb4⟩;have R2:=row_below R1 hb4;have B2:=B1.trans (hb4.mono B1.size);have H2:=H1.mv hb4;have hbg:=rt_begins H2 (m+N) (i0+(N:Int)) (by have:=Hi0.out;push_cast;omega) (by omega);clear hb4 H1 R1 B1 hpa hlc
     go_wp2_with fail
     refine hbg.mono ?_
     rintro e5 w5 ⟨rfl,rfl⟩
     cases hb:beg (l.drop (m+N)) with
     | true =>
      rw[hb,if_pos rfl] at Hn4;have hcall:=rt_name H2 (m+N) (i0+(N:Int)) (by have:=Hi0.out;push_cast;omega) (by omega);generalize nameT (l.drop (m+N))=NM at *
      have Hres:Hid (NX=(⟨10,writeP NM.1,V⟩,NM.2)):=by show _=_;exact Hn4.out
      clear hb Hn4
      go_wp2_with fail
      refine hcall.mono ?_
      rintro e6 w6 ⟨⟨k',hk',hk'n,hd',rfl⟩,hb6⟩;have R3:=row_below R2 hb6;have B3:=B2.trans (hb6.mono B2.size);have H3:=H2.mv hb6;obtain⟨x0,z0⟩:=R3.2 0 _ rfl;obtain⟨x1,z1⟩:=R3.2 1 _ rfl;obtain⟨x2,z2⟩:=R3.2 2 _ rfl;have hfin:=((R3.store 0 (.int .i64 10)).store 1 (.string (bytesOf (writeP NM.1)))).store 2 (.int .i64 V);have B99:=below_set (below_set (below_set B3 0 (.int .i64 10)) 1 (.string (bytesOf (writeP NM.1)))) 2 (.int .i64 V)
      (try unfold tokV)
      go_wp2_with fail
      (try simp only[Exit.inBlock,Exit.then])
      refine bodyPost_ret (results_tok2 rfl _ _ _ _ _ _ rfl hfin) rfl ?_
      exact⟨⟨k',by have h0:0<N:=(by simpa using t0');omega,hk'n,by rw[Hres.out];exact hd',by rw[Hres.out];rfl⟩,B99⟩
     | false =>
      rw[hb,if_neg (by simp)] at Hn4;have hp37:=rt_at H2 (m+N) (i0+(N:Int)) (by have:=Hi0.out;push_cast;omega) (by omega);rw[pk0] at hp37;obtain⟨f,hf⟩:∃ f,pk (l.drop (m+N)) 0=f:=⟨_,rfl⟩;rw[hf] at hp37 Hn4
      have hfl:f=37→m+N<n:=fun h37=>by
       have:=pk_pos (l:=l.drop (m+N)) (m:=0) (by rw[hf];omega);rw[List.length_drop] at this;omega
      have Hf:=Lib.hid hf;clear hf hb
      go_wp2_with fail
      refine hp37.mono ?_
      rintro e6 w6 ⟨rfl,rfl⟩
      by_cases h37:f=37
      ·have Hres:Hid (NX=(⟨9,[],V⟩,l.drop (m+N+1))):=by
        have:=Hn4.out;rw[if_pos h37,List.tail_drop] at this;exact this
       have t37:=eq_t h37;have hlt:=hfl h37;clear h37 Hn4 hfl;obtain⟨x0,z0⟩:=R2.2 0 _ rfl;obtain⟨x1,z1⟩:=R2.2 1 _ rfl;obtain⟨x2,z2⟩:=R2.2 2 _ rfl;have hfin:=((R2.store 0 (.int .i64 9)).store 1 (.string ⟨#[]⟩)).store 2 (.int .i64 V);have B99:=below_set (below_set (below_set B2 0 (.int .i64 9)) 1 (.string ⟨#[]⟩)) 2 (.int .i64 V)
       (try unfold tokV)
       go_wp2_with fail
       (try simp only[Exit.inBlock,Exit.then])
       refine bodyPost_ret (results_tok2 rfl _ _ _ _ _ _ rfl hfin) rfl ?_
       exact⟨⟨m+N+1,by omega,by omega,by rw[Hres.out],by rw[Hres.out];exact ret2i (by have:=Hi0.out;push_cast;omega)⟩,B99⟩
      ·have Hres:Hid (NX=(⟨8,[],V⟩,l.drop (m+N))):=by
        have:=Hn4.out;rw[if_neg h37] at this;exact this
       have t37:=eq_f h37;have hN0:0<N:=by simpa using t0
       clear h37 Hn4 hfl;obtain⟨x0,z0⟩:=R2.2 0 _ rfl;obtain⟨x1,z1⟩:=R2.2 1 _ rfl;obtain⟨x2,z2⟩:=R2.2 2 _ rfl;have hfin:=((R2.store 0 (.int .i64 8)).store 1 (.string ⟨#[]⟩)).store 2 (.int .i64 V);have B99:=below_set (below_set (below_set B2 0 (.int .i64 8)) 1 (.string ⟨#[]⟩)) 2 (.int .i64 V)
       (try unfold tokV)
       go_wp2_with fail
       (try simp only[Exit.inBlock,Exit.then])
       refine bodyPost_ret (results_tok2 rfl _ _ _ _ _ _ rfl hfin) rfl ?_
       exact⟨⟨m+N,by omega,by omega,by rw[Hres.out],by rw[Hres.out];exact ret2i (by have:=Hi0.out;push_cast;omega)⟩,B99⟩
  case rest =>
   obtain⟨rfl,hnone,R1,B1⟩:=hcut;have hn3:=Hn2.out;rw[hnone.out] at hn3;have Hn3:=Lib.hid hn3
   refine ‹∀ (a:Act) (w:World),Code.wp _ _ _ a w→_› _ _ ?_
   exact rt_tail19 _ _ _ _ _ _ _ _ _ _ _ _ _ _ _ _ _ _ _ _ _ _ _ _ _ _ _ _ _ _ _ _ _ _ _ _ _ _ _ _ _ _ _ _ _ _ _ _ _ _ _ _ _ _ _ _ _ _ _ _ _ _ _ _ _ _ _ _ _ _ _ _ _ _ _ _ _ _ _ _ _ _ _ _ _ _ _ _ _ _ _ _ _ _ _ _ _ _ _ _ _ _ _ _ _ _ _ _ _ _ _ _ _ _ _ _ _ _ _ _ _ _ _ _ _ _ _ _ _ _ _ _ _ _ _ _ _ _ _ _ _ _ _ _ _ _ _ _ _ _ _ _ _ _ _ _ _ _ _ _ _ _ _ _ _ _ _ _ _ _ _ _ _ _ _ _ _ _ _ _ _ _ _ _ _ _ _ _ _ _ _ _ _ _ _ h Hi0 y1 y4 hm hcB Hn3 R1 B1
end Go.Proofs.YtfhdihdafmahgaaGreatDoor
