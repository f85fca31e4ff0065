/-
  Part 5 of what the proof of this law rests on.
-/
import Derived.Test.YtcemblilhbidgaaKD4
namespace Go.Proofs.Ytcemblilhbidgaa
section
open Go.RowKit
attribute [local irreducible] TS go TD goD

/-- multihop/multihopref29.parse -/
noncomputable def F_ref29_parse_j2 (s1 : (List Int) × (List S_Notice) × Int × (List Int)) (l12 : List Int) (v13 : Bool × (List Int) × S_Notice) : Option (((List Int) × (List S_Notice) × Int × (List Int)) ⊕ (((List S_Notice)) ⊕ ((List S_Notice) × Bool))) :=
  bif v13.1 then
    (appO 96 s1.2.1 (Cut.app .whole ([v13.2.2] : List S_Notice))).bind fun l15 =>
    some (Sum.inl (l12, l15, s1.2.2.1, v13.2.1))
  else
    some (Sum.inr (Sum.inr (([] : List S_Notice), false)))
noncomputable def F_ref29_parse_l1  (s1 : (List Int) × (List S_Notice) × Int × (List Int)) : Option (((List Int) × (List S_Notice) × Int × (List Int)) ⊕ (((List S_Notice)) ⊕ ((List S_Notice) × Bool))) :=
  bif (decide ((List.length s1.1 : Int) > 0)) then
    bif (decide ((List.length s1.1 : Int) < 2)) then
      some (Sum.inr (Sum.inr (([] : List S_Notice), false)))
    else
      (idx s1.1 1).bind fun e6 =>
      bif (decide ((List.length s1.1 : Int) < (IntKind.wrap .i64 (2 + (IntKind.wrap .i64 e6))))) then
        some (Sum.inr (Sum.inr (([] : List S_Notice), false)))
      else
        (idx s1.1 0).bind fun e8 =>
        (idx s1.1 1).bind fun e9 =>
        (subO s1.1 2 (IntKind.wrap .i64 (2 + (IntKind.wrap .i64 e9)))).bind fun l10 =>
        (idx s1.1 1).bind fun e11 =>
        (subO s1.1 (IntKind.wrap .i64 (2 + (IntKind.wrap .i64 e11))) (List.length s1.1 : Int)).bind fun l12 =>
        bif (e8 == 1) then
          bif ((List.length l10 : Int) == 2) then
            (F_ref29_Get l10 0 2).bind fun v18 =>
            (F_ref29_parse_j2 s1 l12) (true, s1.2.2.2, (S_Notice.mk (IntKind.wrap .i64 e8) (IntKind.wrap .u16 v18) 0 0 (S_Destination.mk (S_Prefix.mk [0, 0, 0, 0, 0, 0, 0, 0, 0, 0, 0, 0, 0, 0, 0, 0] 0) (S_Prefix.mk [0, 0, 0, 0, 0, 0, 0, 0, 0, 0, 0, 0, 0, 0, 0, 0] 0) 0) 0))
          else
            bif (e8 == 2) then
              bif ((List.length l10 : Int) == 10) then
                (F_ref29_Get l10 0 8).bind fun v21 =>
                (F_ref29_Get l10 8 2).bind fun v22 =>
                (F_ref29_parse_j2 s1 l12) (true, s1.2.2.2, (S_Notice.mk (IntKind.wrap .i64 e8) 0 (IntKind.wrap .i64 v22) v21 (S_Destination.mk (S_Prefix.mk [0, 0, 0, 0, 0, 0, 0, 0, 0, 0, 0, 0, 0, 0, 0, 0] 0) (S_Prefix.mk [0, 0, 0, 0, 0, 0, 0, 0, 0, 0, 0, 0, 0, 0, 0, 0] 0) 0) 0))
              else
                bif (e8 == 3) then
                  bif (decide ((List.length l10 : Int) ≥ 7)) then
                    (F_ref29_Get l10 3 2).bind fun v25 =>
                    (F_ref29_Get l10 5 2).bind fun v26 =>
                    (subO l10 7 (List.length l10 : Int)).bind fun l27 =>
                    (idx l10 1).bind fun e28 =>
                    (idx l10 2).bind fun e29 =>
                    (idx l10 0).bind fun e30 =>
                    (F_ref29_both l27 (IntKind.wrap .i64 e28) (IntKind.wrap .i64 e29) (IntKind.wrap .i64 e30) s1.2.2.2).bind fun v31 =>
                    (F_ref29_parse_j2 s1 l12) (v31.2, v31.1.Dst.IP, (S_Notice.mk (IntKind.wrap .i64 e8) (IntKind.wrap .u16 v25) (IntKind.wrap .i64 v26) 0 (S_Destination.mk v31.1.Dst v31.1.Src s1.2.2.1) 0))
                  else
                    bif (e8 == 4) then
                      bif (decide ((List.length l10 : Int) ≥ 2)) then
                        (subO l10 2 (List.length l10 : Int)).bind fun l34 =>
                        (idx l10 0).bind fun e35 =>
                        (idx l10 1).bind fun e36 =>
                        (F_ref29_both l34 (IntKind.wrap .i64 e35) (IntKind.wrap .i64 e36) 0 [0, 0, 0, 0, 0, 0, 0, 0, 0, 0, 0, 0, 0, 0, 0, 0]).bind fun v37 =>
                        (F_ref29_parse_j2 s1 l12) (v37.2, s1.2.2.2, (S_Notice.mk (IntKind.wrap .i64 e8) 0 0 0 v37.1 0))
                      else
                        bif (e8 == 5) then
                          bif (decide ((List.length l10 : Int) ≥ 13)) then
                            (F_ref29_Get l10 2 2).bind fun v40 =>
                            (idx l10 4).bind fun e41 =>
                            (subO l10 13 (List.length l10 : Int)).bind fun l42 =>
                            (idx l10 0).bind fun e43 =>
                            (idx l10 1).bind fun e44 =>
                            (F_ref29_both l42 (IntKind.wrap .i64 e43) (IntKind.wrap .i64 e44) 0 [0, 0, 0, 0, 0, 0, 0, 0, 0, 0, 0, 0, 0, 0, 0, 0]).bind fun v45 =>
                            (F_ref29_Get l10 5 8).bind fun v46 =>
                            (F_ref29_parse_j2 s1 l12) (v45.2, s1.2.2.2, (S_Notice.mk (IntKind.wrap .i64 e8) (IntKind.wrap .u16 v40) 0 0 (S_Destination.mk v45.1.Dst v45.1.Src v46) (IntKind.wrap .i64 e41)))
                          else
                            bif (e8 == 6) then
                              bif ((List.length l10 : Int) == 8) then
                                (F_ref29_Get l10 0 8).bind fun v49 =>
                                some (Sum.inl (l12, s1.2.1, v49, s1.2.2.2))
                              else
                                some (Sum.inr (Sum.inr (([] : List S_Notice), false)))
                            else
                              some (Sum.inr (Sum.inr (([] : List S_Notice), false)))
                        else
                          bif (e8 == 6) then
                            bif ((List.length l10 : Int) == 8) then
                              (F_ref29_Get l10 0 8).bind fun v52 =>
                              some (Sum.inl (l12, s1.2.1, v52, s1.2.2.2))
                            else
                              some (Sum.inr (Sum.inr (([] : List S_Notice), false)))
                          else
                            some (Sum.inr (Sum.inr (([] : List S_Notice), false)))
                    else
                      bif (e8 == 5) then
                        bif (decide ((List.length l10 : Int) ≥ 13)) then
                          (F_ref29_Get l10 2 2).bind fun v55 =>
                          (idx l10 4).bind fun e56 =>
                          (subO l10 13 (List.length l10 : Int)).bind fun l57 =>
                          (idx l10 0).bind fun e58 =>
                          (idx l10 1).bind fun e59 =>
                          (F_ref29_both l57 (IntKind.wrap .i64 e58) (IntKind.wrap .i64 e59) 0 [0, 0, 0, 0, 0, 0, 0, 0, 0, 0, 0, 0, 0, 0, 0, 0]).bind fun v60 =>
                          (F_ref29_Get l10 5 8).bind fun v61 =>
                          (F_ref29_parse_j2 s1 l12) (v60.2, s1.2.2.2, (S_Notice.mk (IntKind.wrap .i64 e8) (IntKind.wrap .u16 v55) 0 0 (S_Destination.mk v60.1.Dst v60.1.Src v61) (IntKind.wrap .i64 e56)))
                        else
                          bif (e8 == 6) then
                            bif ((List.length l10 : Int) == 8) then
                              (F_ref29_Get l10 0 8).bind fun v64 =>
                              some (Sum.inl (l12, s1.2.1, v64, s1.2.2.2))
                            else
                              some (Sum.inr (Sum.inr (([] : List S_Notice), false)))
                          else
                            some (Sum.inr (Sum.inr (([] : List S_Notice), false)))
                      else
                        bif (e8 == 6) then
                          bif ((List.length l10 : Int) == 8) then
                            (F_ref29_Get l10 0 8).bind fun v67 =>
                            some (Sum.inl (l12, s1.2.1, v67, s1.2.2.2))
                          else
                            some (Sum.inr (Sum.inr (([] : List S_Notice), false)))
                        else
                          some (Sum.inr (Sum.inr (([] : List S_Notice), false)))
                else
                  bif (e8 == 4) then
                    bif (decide ((List.length l10 : Int) ≥ 2)) then
                      (subO l10 2 (List.length l10 : Int)).bind fun l70 =>
                      (idx l10 0).bind fun e71 =>
                      (idx l10 1).bind fun e72 =>
                      (F_ref29_both l70 (IntKind.wrap .i64 e71) (IntKind.wrap .i64 e72) 0 [0, 0, 0, 0, 0, 0, 0, 0, 0, 0, 0, 0, 0, 0, 0, 0]).bind fun v73 =>
                      (F_ref29_parse_j2 s1 l12) (v73.2, s1.2.2.2, (S_Notice.mk (IntKind.wrap .i64 e8) 0 0 0 v73.1 0))
                    else
                      bif (e8 == 5) then
                        bif (decide ((List.length l10 : Int) ≥ 13)) then
                          (F_ref29_Get l10 2 2).bind fun v76 =>
                          (idx l10 4).bind fun e77 =>
                          (subO l10 13 (List.length l10 : Int)).bind fun l78 =>
                          (idx l10 0).bind fun e79 =>
                          (idx l10 1).bind fun e80 =>
                          (F_ref29_both l78 (IntKind.wrap .i64 e79) (IntKind.wrap .i64 e80) 0 [0, 0, 0, 0, 0, 0, 0, 0, 0, 0, 0, 0, 0, 0, 0, 0]).bind fun v81 =>
                          (F_ref29_Get l10 5 8).bind fun v82 =>
                          (F_ref29_parse_j2 s1 l12) (v81.2, s1.2.2.2, (S_Notice.mk (IntKind.wrap .i64 e8) (IntKind.wrap .u16 v76) 0 0 (S_Destination.mk v81.1.Dst v81.1.Src v82) (IntKind.wrap .i64 e77)))
                        else
                          bif (e8 == 6) then
                            bif ((List.length l10 : Int) == 8) then
                              (F_ref29_Get l10 0 8).bind fun v85 =>
                              some (Sum.inl (l12, s1.2.1, v85, s1.2.2.2))
                            else
                              some (Sum.inr (Sum.inr (([] : List S_Notice), false)))
                          else
                            some (Sum.inr (Sum.inr (([] : List S_Notice), false)))
                      else
                        bif (e8 == 6) then
                          bif ((List.length l10 : Int) == 8) then
                            (F_ref29_Get l10 0 8).bind fun v88 =>
                            some (Sum.inl (l12, s1.2.1, v88, s1.2.2.2))
                          else
                            some (Sum.inr (Sum.inr (([] : List S_Notice), false)))
                        else
                          some (Sum.inr (Sum.inr (([] : List S_Notice), false)))
                  else
                    bif (e8 == 5) then
                      bif (decide ((List.length l10 : Int) ≥ 13)) then
                        (F_ref29_Get l10 2 2).bind fun v91 =>
                        (idx l10 4).bind fun e92 =>
                        (subO l10 13 (List.length l10 : Int)).bind fun l93 =>
                        (idx l10 0).bind fun e94 =>
                        (idx l10 1).bind fun e95 =>
                        (F_ref29_both l93 (IntKind.wrap .i64 e94) (IntKind.wrap .i64 e95) 0 [0, 0, 0, 0, 0, 0, 0, 0, 0, 0, 0, 0, 0, 0, 0, 0]).bind fun v96 =>
                        (F_ref29_Get l10 5 8).bind fun v97 =>
                        (F_ref29_parse_j2 s1 l12) (v96.2, s1.2.2.2, (S_Notice.mk (IntKind.wrap .i64 e8) (IntKind.wrap .u16 v91) 0 0 (S_Destination.mk v96.1.Dst v96.1.Src v97) (IntKind.wrap .i64 e92)))
                      else
                        bif (e8 == 6) then
                          bif ((List.length l10 : Int) == 8) then
                            (F_ref29_Get l10 0 8).bind fun v100 =>
                            some (Sum.inl (l12, s1.2.1, v100, s1.2.2.2))
                          else
                            some (Sum.inr (Sum.inr (([] : List S_Notice), false)))
                        else
                          some (Sum.inr (Sum.inr (([] : List S_Notice), false)))
                    else
                      bif (e8 == 6) then
                        bif ((List.length l10 : Int) == 8) then
                          (F_ref29_Get l10 0 8).bind fun v103 =>
                          some (Sum.inl (l12, s1.2.1, v103, s1.2.2.2))
                        else
                          some (Sum.inr (Sum.inr (([] : List S_Notice), false)))
                      else
                        some (Sum.inr (Sum.inr (([] : List S_Notice), false)))
            else
              bif (e8 == 3) then
                bif (decide ((List.length l10 : Int) ≥ 7)) then
                  (F_ref29_Get l10 3 2).bind fun v106 =>
                  (F_ref29_Get l10 5 2).bind fun v107 =>
                  (subO l10 7 (List.length l10 : Int)).bind fun l108 =>
                  (idx l10 1).bind fun e109 =>
                  (idx l10 2).bind fun e110 =>
                  (idx l10 0).bind fun e111 =>
                  (F_ref29_both l108 (IntKind.wrap .i64 e109) (IntKind.wrap .i64 e110) (IntKind.wrap .i64 e111) s1.2.2.2).bind fun v112 =>
                  (F_ref29_parse_j2 s1 l12) (v112.2, v112.1.Dst.IP, (S_Notice.mk (IntKind.wrap .i64 e8) (IntKind.wrap .u16 v106) (IntKind.wrap .i64 v107) 0 (S_Destination.mk v112.1.Dst v112.1.Src s1.2.2.1) 0))
                else
                  bif (e8 == 4) then
                    bif (decide ((List.length l10 : Int) ≥ 2)) then
                      (subO l10 2 (List.length l10 : Int)).bind fun l115 =>
                      (idx l10 0).bind fun e116 =>
                      (idx l10 1).bind fun e117 =>
                      (F_ref29_both l115 (IntKind.wrap .i64 e116) (IntKind.wrap .i64 e117) 0 [0, 0, 0, 0, 0, 0, 0, 0, 0, 0, 0, 0, 0, 0, 0, 0]).bind fun v118 =>
                      (F_ref29_parse_j2 s1 l12) (v118.2, s1.2.2.2, (S_Notice.mk (IntKind.wrap .i64 e8) 0 0 0 v118.1 0))
                    else
                      bif (e8 == 5) then
                        bif (decide ((List.length l10 : Int) ≥ 13)) then
                          (F_ref29_Get l10 2 2).bind fun v121 =>
                          (idx l10 4).bind fun e122 =>
                          (subO l10 13 (List.length l10 : Int)).bind fun l123 =>
                          (idx l10 0).bind fun e124 =>
                          (idx l10 1).bind fun e125 =>
                          (F_ref29_both l123 (IntKind.wrap .i64 e124) (IntKind.wrap .i64 e125) 0 [0, 0, 0, 0, 0, 0, 0, 0, 0, 0, 0, 0, 0, 0, 0, 0]).bind fun v126 =>
                          (F_ref29_Get l10 5 8).bind fun v127 =>
                          (F_ref29_parse_j2 s1 l12) (v126.2, s1.2.2.2, (S_Notice.mk (IntKind.wrap .i64 e8) (IntKind.wrap .u16 v121) 0 0 (S_Destination.mk v126.1.Dst v126.1.Src v127) (IntKind.wrap .i64 e122)))
                        else
                          bif (e8 == 6) then
                            bif ((List.length l10 : Int) == 8) then
                              (F_ref29_Get l10 0 8).bind fun v130 =>
                              some (Sum.inl (l12, s1.2.1, v130, s1.2.2.2))
                            else
                              some (Sum.inr (Sum.inr (([] : List S_Notice), false)))
                          else
                            some (Sum.inr (Sum.inr (([] : List S_Notice), false)))
                      else
                        bif (e8 == 6) then
                          bif ((List.length l10 : Int) == 8) then
                            (F_ref29_Get l10 0 8).bind fun v133 =>
                            some (Sum.inl (l12, s1.2.1, v133, s1.2.2.2))
                          else
                            some (Sum.inr (Sum.inr (([] : List S_Notice), false)))
                        else
                          some (Sum.inr (Sum.inr (([] : List S_Notice), false)))
                  else
                    bif (e8 == 5) then
                      bif (decide ((List.length l10 : Int) ≥ 13)) then
                        (F_ref29_Get l10 2 2).bind fun v136 =>
                        (idx l10 4).bind fun e137 =>
                        (subO l10 13 (List.length l10 : Int)).bind fun l138 =>
                        (idx l10 0).bind fun e139 =>
                        (idx l10 1).bind fun e140 =>
                        (F_ref29_both l138 (IntKind.wrap .i64 e139) (IntKind.wrap .i64 e140) 0 [0, 0, 0, 0, 0, 0, 0, 0, 0, 0, 0, 0, 0, 0, 0, 0]).bind fun v141 =>
                        (F_ref29_Get l10 5 8).bind fun v142 =>
                        (F_ref29_parse_j2 s1 l12) (v141.2, s1.2.2.2, (S_Notice.mk (IntKind.wrap .i64 e8) (IntKind.wrap .u16 v136) 0 0 (S_Destination.mk v141.1.Dst v141.1.Src v142) (IntKind.wrap .i64 e137)))
                      else
                        bif (e8 == 6) then
                          bif ((List.length l10 : Int) == 8) then
                            (F_ref29_Get l10 0 8).bind fun v145 =>
                            some (Sum.inl (l12, s1.2.1, v145, s1.2.2.2))
                          else
                            some (Sum.inr (Sum.inr (([] : List S_Notice), false)))
                        else
                          some (Sum.inr (Sum.inr (([] : List S_Notice), false)))
                    else
                      bif (e8 == 6) then
                        bif ((List.length l10 : Int) == 8) then
                          (F_ref29_Get l10 0 8).bind fun v148 =>
                          some (Sum.inl (l12, s1.2.1, v148, s1.2.2.2))
                        else
                          some (Sum.inr (Sum.inr (([] : List S_Notice), false)))
                      else
                        some (Sum.inr (Sum.inr (([] : List S_Notice), false)))
              else
                bif (e8 == 4) then
                  bif (decide ((List.length l10 : Int) ≥ 2)) then
                    (subO l10 2 (List.length l10 : Int)).bind fun l151 =>
                    (idx l10 0).bind fun e152 =>
                    (idx l10 1).bind fun e153 =>
                    (F_ref29_both l151 (IntKind.wrap .i64 e152) (IntKind.wrap .i64 e153) 0 [0, 0, 0, 0, 0, 0, 0, 0, 0, 0, 0, 0, 0, 0, 0, 0]).bind fun v154 =>
                    (F_ref29_parse_j2 s1 l12) (v154.2, s1.2.2.2, (S_Notice.mk (IntKind.wrap .i64 e8) 0 0 0 v154.1 0))
                  else
                    bif (e8 == 5) then
                      bif (decide ((List.length l10 : Int) ≥ 13)) then
                        (F_ref29_Get l10 2 2).bind fun v157 =>
                        (idx l10 4).bind fun e158 =>
                        (subO l10 13 (List.length l10 : Int)).bind fun l159 =>
                        (idx l10 0).bind fun e160 =>
                        (idx l10 1).bind fun e161 =>
                        (F_ref29_both l159 (IntKind.wrap .i64 e160) (IntKind.wrap .i64 e161) 0 [0, 0, 0, 0, 0, 0, 0, 0, 0, 0, 0, 0, 0, 0, 0, 0]).bind fun v162 =>
                        (F_ref29_Get l10 5 8).bind fun v163 =>
                        (F_ref29_parse_j2 s1 l12) (v162.2, s1.2.2.2, (S_Notice.mk (IntKind.wrap .i64 e8) (IntKind.wrap .u16 v157) 0 0 (S_Destination.mk v162.1.Dst v162.1.Src v163) (IntKind.wrap .i64 e158)))
                      else
                        bif (e8 == 6) then
                          bif ((List.length l10 : Int) == 8) then
                            (F_ref29_Get l10 0 8).bind fun v166 =>
                            some (Sum.inl (l12, s1.2.1, v166, s1.2.2.2))
                          else
                            some (Sum.inr (Sum.inr (([] : List S_Notice), false)))
                        else
                          some (Sum.inr (Sum.inr (([] : List S_Notice), false)))
                    else
                      bif (e8 == 6) then
                        bif ((List.length l10 : Int) == 8) then
                          (F_ref29_Get l10 0 8).bind fun v169 =>
                          some (Sum.inl (l12, s1.2.1, v169, s1.2.2.2))
                        else
                          some (Sum.inr (Sum.inr (([] : List S_Notice), false)))
                      else
                        some (Sum.inr (Sum.inr (([] : List S_Notice), false)))
                else
                  bif (e8 == 5) then
                    bif (decide ((List.length l10 : Int) ≥ 13)) then
                      (F_ref29_Get l10 2 2).bind fun v172 =>
                      (idx l10 4).bind fun e173 =>
                      (subO l10 13 (List.length l10 : Int)).bind fun l174 =>
                      (idx l10 0).bind fun e175 =>
                      (idx l10 1).bind fun e176 =>
                      (F_ref29_both l174 (IntKind.wrap .i64 e175) (IntKind.wrap .i64 e176) 0 [0, 0, 0, 0, 0, 0, 0, 0, 0, 0, 0, 0, 0, 0, 0, 0]).bind fun v177 =>
                      (F_ref29_Get l10 5 8).bind fun v178 =>
                      (F_ref29_parse_j2 s1 l12) (v177.2, s1.2.2.2, (S_Notice.mk (IntKind.wrap .i64 e8) (IntKind.wrap .u16 v172) 0 0 (S_Destination.mk v177.1.Dst v177.1.Src v178) (IntKind.wrap .i64 e173)))
                    else
                      bif (e8 == 6) then
                        bif ((List.length l10 : Int) == 8) then
                          (F_ref29_Get l10 0 8).bind fun v181 =>
                          some (Sum.inl (l12, s1.2.1, v181, s1.2.2.2))
                        else
                          some (Sum.inr (Sum.inr (([] : List S_Notice), false)))
                      else
                        some (Sum.inr (Sum.inr (([] : List S_Notice), false)))
                  else
                    bif (e8 == 6) then
                      bif ((List.length l10 : Int) == 8) then
                        (F_ref29_Get l10 0 8).bind fun v184 =>
                        some (Sum.inl (l12, s1.2.1, v184, s1.2.2.2))
                      else
                        some (Sum.inr (Sum.inr (([] : List S_Notice), false)))
                    else
                      some (Sum.inr (Sum.inr (([] : List S_Notice), false)))
        else
          bif (e8 == 2) then
            bif ((List.length l10 : Int) == 10) then
              (F_ref29_Get l10 0 8).bind fun v187 =>
              (F_ref29_Get l10 8 2).bind fun v188 =>
              (F_ref29_parse_j2 s1 l12) (true, s1.2.2.2, (S_Notice.mk (IntKind.wrap .i64 e8) 0 (IntKind.wrap .i64 v188) v187 (S_Destination.mk (S_Prefix.mk [0, 0, 0, 0, 0, 0, 0, 0, 0, 0, 0, 0, 0, 0, 0, 0] 0) (S_Prefix.mk [0, 0, 0, 0, 0, 0, 0, 0, 0, 0, 0, 0, 0, 0, 0, 0] 0) 0) 0))
            else
              bif (e8 == 3) then
                bif (decide ((List.length l10 : Int) ≥ 7)) then
                  (F_ref29_Get l10 3 2).bind fun v191 =>
                  (F_ref29_Get l10 5 2).bind fun v192 =>
                  (subO l10 7 (List.length l10 : Int)).bind fun l193 =>
                  (idx l10 1).bind fun e194 =>
                  (idx l10 2).bind fun e195 =>
                  (idx l10 0).bind fun e196 =>
                  (F_ref29_both l193 (IntKind.wrap .i64 e194) (IntKind.wrap .i64 e195) (IntKind.wrap .i64 e196) s1.2.2.2).bind fun v197 =>
                  (F_ref29_parse_j2 s1 l12) (v197.2, v197.1.Dst.IP, (S_Notice.mk (IntKind.wrap .i64 e8) (IntKind.wrap .u16 v191) (IntKind.wrap .i64 v192) 0 (S_Destination.mk v197.1.Dst v197.1.Src s1.2.2.1) 0))
                else
                  bif (e8 == 4) then
                    bif (decide ((List.length l10 : Int) ≥ 2)) then
                      (subO l10 2 (List.length l10 : Int)).bind fun l200 =>
                      (idx l10 0).bind fun e201 =>
                      (idx l10 1).bind fun e202 =>
                      (F_ref29_both l200 (IntKind.wrap .i64 e201) (IntKind.wrap .i64 e202) 0 [0, 0, 0, 0, 0, 0, 0, 0, 0, 0, 0, 0, 0, 0, 0, 0]).bind fun v203 =>
                      (F_ref29_parse_j2 s1 l12) (v203.2, s1.2.2.2, (S_Notice.mk (IntKind.wrap .i64 e8) 0 0 0 v203.1 0))
                    else
                      bif (e8 == 5) then
                        bif (decide ((List.length l10 : Int) ≥ 13)) then
                          (F_ref29_Get l10 2 2).bind fun v206 =>
                          (idx l10 4).bind fun e207 =>
                          (subO l10 13 (List.length l10 : Int)).bind fun l208 =>
                          (idx l10 0).bind fun e209 =>
                          (idx l10 1).bind fun e210 =>
                          (F_ref29_both l208 (IntKind.wrap .i64 e209) (IntKind.wrap .i64 e210) 0 [0, 0, 0, 0, 0, 0, 0, 0, 0, 0, 0, 0, 0, 0, 0, 0]).bind fun v211 =>
                          (F_ref29_Get l10 5 8).bind fun v212 =>
                          (F_ref29_parse_j2 s1 l12) (v211.2, s1.2.2.2, (S_Notice.mk (IntKind.wrap .i64 e8) (IntKind.wrap .u16 v206) 0 0 (S_Destination.mk v211.1.Dst v211.1.Src v212) (IntKind.wrap .i64 e207)))
                        else
                          bif (e8 == 6) then
                            bif ((List.length l10 : Int) == 8) then
                              (F_ref29_Get l10 0 8).bind fun v215 =>
                              some (Sum.inl (l12, s1.2.1, v215, s1.2.2.2))
                            else
                              some (Sum.inr (Sum.inr (([] : List S_Notice), false)))
                          else
                            some (Sum.inr (Sum.inr (([] : List S_Notice), false)))
                      else
                        bif (e8 == 6) then
                          bif ((List.length l10 : Int) == 8) then
                            (F_ref29_Get l10 0 8).bind fun v218 =>
                            some (Sum.inl (l12, s1.2.1, v218, s1.2.2.2))
                          else
                            some (Sum.inr (Sum.inr (([] : List S_Notice), false)))
                        else
                          some (Sum.inr (Sum.inr (([] : List S_Notice), false)))
                  else
                    bif (e8 == 5) then
                      bif (decide ((List.length l10 : Int) ≥ 13)) then
                        (F_ref29_Get l10 2 2).bind fun v221 =>
                        (idx l10 4).bind fun e222 =>
                        (subO l10 13 (List.length l10 : Int)).bind fun l223 =>
                        (idx l10 0).bind fun e224 =>
                        (idx l10 1).bind fun e225 =>
                        (F_ref29_both l223 (IntKind.wrap .i64 e224) (IntKind.wrap .i64 e225) 0 [0, 0, 0, 0, 0, 0, 0, 0, 0, 0, 0, 0, 0, 0, 0, 0]).bind fun v226 =>
                        (F_ref29_Get l10 5 8).bind fun v227 =>
                        (F_ref29_parse_j2 s1 l12) (v226.2, s1.2.2.2, (S_Notice.mk (IntKind.wrap .i64 e8) (IntKind.wrap .u16 v221) 0 0 (S_Destination.mk v226.1.Dst v226.1.Src v227) (IntKind.wrap .i64 e222)))
                      else
                        bif (e8 == 6) then
                          bif ((List.length l10 : Int) == 8) then
                            (F_ref29_Get l10 0 8).bind fun v230 =>
                            some (Sum.inl (l12, s1.2.1, v230, s1.2.2.2))
                          else
                            some (Sum.inr (Sum.inr (([] : List S_Notice), false)))
                        else
                          some (Sum.inr (Sum.inr (([] : List S_Notice), false)))
                    else
                      bif (e8 == 6) then
                        bif ((List.length l10 : Int) == 8) then
                          (F_ref29_Get l10 0 8).bind fun v233 =>
                          some (Sum.inl (l12, s1.2.1, v233, s1.2.2.2))
                        else
                          some (Sum.inr (Sum.inr (([] : List S_Notice), false)))
                      else
                        some (Sum.inr (Sum.inr (([] : List S_Notice), false)))
              else
                bif (e8 == 4) then
                  bif (decide ((List.length l10 : Int) ≥ 2)) then
                    (subO l10 2 (List.length l10 : Int)).bind fun l236 =>
                    (idx l10 0).bind fun e237 =>
                    (idx l10 1).bind fun e238 =>
                    (F_ref29_both l236 (IntKind.wrap .i64 e237) (IntKind.wrap .i64 e238) 0 [0, 0, 0, 0, 0, 0, 0, 0, 0, 0, 0, 0, 0, 0, 0, 0]).bind fun v239 =>
                    (F_ref29_parse_j2 s1 l12) (v239.2, s1.2.2.2, (S_Notice.mk (IntKind.wrap .i64 e8) 0 0 0 v239.1 0))
                  else
                    bif (e8 == 5) then
                      bif (decide ((List.length l10 : Int) ≥ 13)) then
                        (F_ref29_Get l10 2 2).bind fun v242 =>
                        (idx l10 4).bind fun e243 =>
                        (subO l10 13 (List.length l10 : Int)).bind fun l244 =>
                        (idx l10 0).bind fun e245 =>
                        (idx l10 1).bind fun e246 =>
                        (F_ref29_both l244 (IntKind.wrap .i64 e245) (IntKind.wrap .i64 e246) 0 [0, 0, 0, 0, 0, 0, 0, 0, 0, 0, 0, 0, 0, 0, 0, 0]).bind fun v247 =>
                        (F_ref29_Get l10 5 8).bind fun v248 =>
                        (F_ref29_parse_j2 s1 l12) (v247.2, s1.2.2.2, (S_Notice.mk (IntKind.wrap .i64 e8) (IntKind.wrap .u16 v242) 0 0 (S_Destination.mk v247.1.Dst v247.1.Src v248) (IntKind.wrap .i64 e243)))
                      else
                        bif (e8 == 6) then
                          bif ((List.length l10 : Int) == 8) then
                            (F_ref29_Get l10 0 8).bind fun v251 =>
                            some (Sum.inl (l12, s1.2.1, v251, s1.2.2.2))
                          else
                            some (Sum.inr (Sum.inr (([] : List S_Notice), false)))
                        else
                          some (Sum.inr (Sum.inr (([] : List S_Notice), false)))
                    else
                      bif (e8 == 6) then
                        bif ((List.length l10 : Int) == 8) then
                          (F_ref29_Get l10 0 8).bind fun v254 =>
                          some (Sum.inl (l12, s1.2.1, v254, s1.2.2.2))
                        else
                          some (Sum.inr (Sum.inr (([] : List S_Notice), false)))
                      else
                        some (Sum.inr (Sum.inr (([] : List S_Notice), false)))
                else
                  bif (e8 == 5) then
                    bif (decide ((List.length l10 : Int) ≥ 13)) then
                      (F_ref29_Get l10 2 2).bind fun v257 =>
                      (idx l10 4).bind fun e258 =>
                      (subO l10 13 (List.length l10 : Int)).bind fun l259 =>
                      (idx l10 0).bind fun e260 =>
                      (idx l10 1).bind fun e261 =>
                      (F_ref29_both l259 (IntKind.wrap .i64 e260) (IntKind.wrap .i64 e261) 0 [0, 0, 0, 0, 0, 0, 0, 0, 0, 0, 0, 0, 0, 0, 0, 0]).bind fun v262 =>
                      (F_ref29_Get l10 5 8).bind fun v263 =>
                      (F_ref29_parse_j2 s1 l12) (v262.2, s1.2.2.2, (S_Notice.mk (IntKind.wrap .i64 e8) (IntKind.wrap .u16 v257) 0 0 (S_Destination.mk v262.1.Dst v262.1.Src v263) (IntKind.wrap .i64 e258)))
                    else
                      bif (e8 == 6) then
                        bif ((List.length l10 : Int) == 8) then
                          (F_ref29_Get l10 0 8).bind fun v266 =>
                          some (Sum.inl (l12, s1.2.1, v266, s1.2.2.2))
                        else
                          some (Sum.inr (Sum.inr (([] : List S_Notice), false)))
                      else
                        some (Sum.inr (Sum.inr (([] : List S_Notice), false)))
                  else
                    bif (e8 == 6) then
                      bif ((List.length l10 : Int) == 8) then
                        (F_ref29_Get l10 0 8).bind fun v269 =>
                        some (Sum.inl (l12, s1.2.1, v269, s1.2.2.2))
                      else
                        some (Sum.inr (Sum.inr (([] : List S_Notice), false)))
                    else
                      some (Sum.inr (Sum.inr (([] : List S_Notice), false)))
          else
            bif (e8 == 3) then
              bif (decide ((List.length l10 : Int) ≥ 7)) then
                (F_ref29_Get l10 3 2).bind fun v272 =>
                (F_ref29_Get l10 5 2).bind fun v273 =>
                (subO l10 7 (List.length l10 : Int)).bind fun l274 =>
                (idx l10 1).bind fun e275 =>
                (idx l10 2).bind fun e276 =>
                (idx l10 0).bind fun e277 =>
                (F_ref29_both l274 (IntKind.wrap .i64 e275) (IntKind.wrap .i64 e276) (IntKind.wrap .i64 e277) s1.2.2.2).bind fun v278 =>
                (F_ref29_parse_j2 s1 l12) (v278.2, v278.1.Dst.IP, (S_Notice.mk (IntKind.wrap .i64 e8) (IntKind.wrap .u16 v272) (IntKind.wrap .i64 v273) 0 (S_Destination.mk v278.1.Dst v278.1.Src s1.2.2.1) 0))
              else
                bif (e8 == 4) then
                  bif (decide ((List.length l10 : Int) ≥ 2)) then
                    (subO l10 2 (List.length l10 : Int)).bind fun l281 =>
                    (idx l10 0).bind fun e282 =>
                    (idx l10 1).bind fun e283 =>
                    (F_ref29_both l281 (IntKind.wrap .i64 e282) (IntKind.wrap .i64 e283) 0 [0, 0, 0, 0, 0, 0, 0, 0, 0, 0, 0, 0, 0, 0, 0, 0]).bind fun v284 =>
                    (F_ref29_parse_j2 s1 l12) (v284.2, s1.2.2.2, (S_Notice.mk (IntKind.wrap .i64 e8) 0 0 0 v284.1 0))
                  else
                    bif (e8 == 5) then
                      bif (decide ((List.length l10 : Int) ≥ 13)) then
                        (F_ref29_Get l10 2 2).bind fun v287 =>
                        (idx l10 4).bind fun e288 =>
                        (subO l10 13 (List.length l10 : Int)).bind fun l289 =>
                        (idx l10 0).bind fun e290 =>
                        (idx l10 1).bind fun e291 =>
                        (F_ref29_both l289 (IntKind.wrap .i64 e290) (IntKind.wrap .i64 e291) 0 [0, 0, 0, 0, 0, 0, 0, 0, 0, 0, 0, 0, 0, 0, 0, 0]).bind fun v292 =>
                        (F_ref29_Get l10 5 8).bind fun v293 =>
                        (F_ref29_parse_j2 s1 l12) (v292.2, s1.2.2.2, (S_Notice.mk (IntKind.wrap .i64 e8) (IntKind.wrap .u16 v287) 0 0 (S_Destination.mk v292.1.Dst v292.1.Src v293) (IntKind.wrap .i64 e288)))
                      else
                        bif (e8 == 6) then
                          bif ((List.length l10 : Int) == 8) then
                            (F_ref29_Get l10 0 8).bind fun v296 =>
                            some (Sum.inl (l12, s1.2.1, v296, s1.2.2.2))
                          else
                            some (Sum.inr (Sum.inr (([] : List S_Notice), false)))
                        else
                          some (Sum.inr (Sum.inr (([] : List S_Notice), false)))
                    else
                      bif (e8 == 6) then
                        bif ((List.length l10 : Int) == 8) then
                          (F_ref29_Get l10 0 8).bind fun v299 =>
                          some (Sum.inl (l12, s1.2.1, v299, s1.2.2.2))
                        else
                          some (Sum.inr (Sum.inr (([] : List S_Notice), false)))
                      else
                        some (Sum.inr (Sum.inr (([] : List S_Notice), false)))
                else
                  bif (e8 == 5) then
                    bif (decide ((List.length l10 : Int) ≥ 13)) then
                      (F_ref29_Get l10 2 2).bind fun v302 =>
                      (idx l10 4).bind fun e303 =>
                      (subO l10 13 (List.length l10 : Int)).bind fun l304 =>
                      (idx l10 0).bind fun e305 =>
                      (idx l10 1).bind fun e306 =>
                      (F_ref29_both l304 (IntKind.wrap .i64 e305) (IntKind.wrap .i64 e306) 0 [0, 0, 0, 0, 0, 0, 0, 0, 0, 0, 0, 0, 0, 0, 0, 0]).bind fun v307 =>
                      (F_ref29_Get l10 5 8).bind fun v308 =>
                      (F_ref29_parse_j2 s1 l12) (v307.2, s1.2.2.2, (S_Notice.mk (IntKind.wrap .i64 e8) (IntKind.wrap .u16 v302) 0 0 (S_Destination.mk v307.1.Dst v307.1.Src v308) (IntKind.wrap .i64 e303)))
                    else
                      bif (e8 == 6) then
                        bif ((List.length l10 : Int) == 8) then
                          (F_ref29_Get l10 0 8).bind fun v311 =>
                          some (Sum.inl (l12, s1.2.1, v311, s1.2.2.2))
                        else
                          some (Sum.inr (Sum.inr (([] : List S_Notice), false)))
                      else
                        some (Sum.inr (Sum.inr (([] : List S_Notice), false)))
                  else
                    bif (e8 == 6) then
                      bif ((List.length l10 : Int) == 8) then
                        (F_ref29_Get l10 0 8).bind fun v314 =>
                        some (Sum.inl (l12, s1.2.1, v314, s1.2.2.2))
                      else
                        some (Sum.inr (Sum.inr (([] : List S_Notice), false)))
                    else
                      some (Sum.inr (Sum.inr (([] : List S_Notice), false)))
            else
              bif (e8 == 4) then
                bif (decide ((List.length l10 : Int) ≥ 2)) then
                  (subO l10 2 (List.length l10 : Int)).bind fun l317 =>
                  (idx l10 0).bind fun e318 =>
                  (idx l10 1).bind fun e319 =>
                  (F_ref29_both l317 (IntKind.wrap .i64 e318) (IntKind.wrap .i64 e319) 0 [0, 0, 0, 0, 0, 0, 0, 0, 0, 0, 0, 0, 0, 0, 0, 0]).bind fun v320 =>
                  (F_ref29_parse_j2 s1 l12) (v320.2, s1.2.2.2, (S_Notice.mk (IntKind.wrap .i64 e8) 0 0 0 v320.1 0))
                else
                  bif (e8 == 5) then
                    bif (decide ((List.length l10 : Int) ≥ 13)) then
                      (F_ref29_Get l10 2 2).bind fun v323 =>
                      (idx l10 4).bind fun e324 =>
                      (subO l10 13 (List.length l10 : Int)).bind fun l325 =>
                      (idx l10 0).bind fun e326 =>
                      (idx l10 1).bind fun e327 =>
                      (F_ref29_both l325 (IntKind.wrap .i64 e326) (IntKind.wrap .i64 e327) 0 [0, 0, 0, 0, 0, 0, 0, 0, 0, 0, 0, 0, 0, 0, 0, 0]).bind fun v328 =>
                      (F_ref29_Get l10 5 8).bind fun v329 =>
                      (F_ref29_parse_j2 s1 l12) (v328.2, s1.2.2.2, (S_Notice.mk (IntKind.wrap .i64 e8) (IntKind.wrap .u16 v323) 0 0 (S_Destination.mk v328.1.Dst v328.1.Src v329) (IntKind.wrap .i64 e324)))
                    else
                      bif (e8 == 6) then
                        bif ((List.length l10 : Int) == 8) then
                          (F_ref29_Get l10 0 8).bind fun v332 =>
                          some (Sum.inl (l12, s1.2.1, v332, s1.2.2.2))
                        else
                          some (Sum.inr (Sum.inr (([] : List S_Notice), false)))
                      else
                        some (Sum.inr (Sum.inr (([] : List S_Notice), false)))
                  else
                    bif (e8 == 6) then
                      bif ((List.length l10 : Int) == 8) then
                        (F_ref29_Get l10 0 8).bind fun v335 =>
                        some (Sum.inl (l12, s1.2.1, v335, s1.2.2.2))
                      else
                        some (Sum.inr (Sum.inr (([] : List S_Notice), false)))
                    else
                      some (Sum.inr (Sum.inr (([] : List S_Notice), false)))
              else
                bif (e8 == 5) then
                  bif (decide ((List.length l10 : Int) ≥ 13)) then
                    (F_ref29_Get l10 2 2).bind fun v338 =>
                    (idx l10 4).bind fun e339 =>
                    (subO l10 13 (List.length l10 : Int)).bind fun l340 =>
                    (idx l10 0).bind fun e341 =>
                    (idx l10 1).bind fun e342 =>
                    (F_ref29_both l340 (IntKind.wrap .i64 e341) (IntKind.wrap .i64 e342) 0 [0, 0, 0, 0, 0, 0, 0, 0, 0, 0, 0, 0, 0, 0, 0, 0]).bind fun v343 =>
                    (F_ref29_Get l10 5 8).bind fun v344 =>
                    (F_ref29_parse_j2 s1 l12) (v343.2, s1.2.2.2, (S_Notice.mk (IntKind.wrap .i64 e8) (IntKind.wrap .u16 v338) 0 0 (S_Destination.mk v343.1.Dst v343.1.Src v344) (IntKind.wrap .i64 e339)))
                  else
                    bif (e8 == 6) then
                      bif ((List.length l10 : Int) == 8) then
                        (F_ref29_Get l10 0 8).bind fun v347 =>
                        some (Sum.inl (l12, s1.2.1, v347, s1.2.2.2))
                      else
                        some (Sum.inr (Sum.inr (([] : List S_Notice), false)))
                    else
                      some (Sum.inr (Sum.inr (([] : List S_Notice), false)))
                else
                  bif (e8 == 6) then
                    bif ((List.length l10 : Int) == 8) then
                      (F_ref29_Get l10 0 8).bind fun v350 =>
                      some (Sum.inl (l12, s1.2.1, v350, s1.2.2.2))
                    else
                      some (Sum.inr (Sum.inr (([] : List S_Notice), false)))
                  else
                    some (Sum.inr (Sum.inr (([] : List S_Notice), false)))
  else
    some (Sum.inr (Sum.inl s1.2.1))
noncomputable def F_ref29_parse (a0 : List Int) : Option ((List S_Notice) × Bool) :=
  (loopO (F_ref29_parse_l1) (a0, ([] : List S_Notice), 0, [0, 0, 0, 0, 0, 0, 0, 0, 0, 0, 0, 0, 0, 0, 0, 0])).bind (Sum.elim (fun b2 =>
    some ((b2, true))
  ) (fun w351 => some w351))
set_option maxRecDepth 100000 in
set_option maxHeartbeats 40000000 in
theorem okT_ref29_parse (a0 : List Int) (r : (List S_Notice) × Bool) (h : F_ref29_parse a0 = some r) : Con Try.prog 69 [.c (eS 1 (ecI .u8) (a0))] [] (.tup [(false, [.slc 40 900002 (List.length r.1) (List.map S_Notice.cs r.1)]), (false, [.lit (.bool (r.2))])]) [(900000, .spare 39 40 (List.length r.1))] := by
  unfold F_ref29_parse at h
  refine con_of [] [(900000, [])] 195 Try.func69 rfl rfl (by kernel_rfl) (fun K => ?_)
  refine TS_go 19 ?_
  refine TS_nilT 4 600000 39 40 (by kernel_rfl) ?_
  refine TS_cut ⟨[(0, []), (4, []), (5, []), (6, [])], [(6, (6, [])), (600000, (600000, []))]⟩ (.mk [.code (codeAt [1, 1, 1, 1, 0, 0] (bodyOf Try.f69)), .blk 0, .code (codeAt [1, 1, 1, 1, 1] (bodyOf Try.f69))] .normal ⟨[(0, .c (.slc 1 0 (List.length a0) (List.map (ecI .u8) a0))), (4, .c (.slc 40 600002 (List.length ([] : List S_Notice)) (List.map S_Notice.cs ([] : List S_Notice)))), (5, .c (.lit (.int .u64 (0)))), (6, .c (.box 6 0))], [(6, .box [.lit (.int .u8 (0)), .lit (.int .u8 (0)), .lit (.int .u8 (0)), .lit (.int .u8 (0)), .lit (.int .u8 (0)), .lit (.int .u8 (0)), .lit (.int .u8 (0)), .lit (.int .u8 (0)), .lit (.int .u8 (0)), .lit (.int .u8 (0)), .lit (.int .u8 (0)), .lit (.int .u8 (0)), .lit (.int .u8 (0)), .lit (.int .u8 (0)), .lit (.int .u8 (0)), .lit (.int .u8 (0))]), (600000, .spare 39 40 (List.length ([] : List S_Notice)))]⟩) (by kernel_rfl) (by kernel_rfl) ?_
  replace h := bindO h
  obtain ⟨y3, hl1, hK1⟩ := h
  refine TS_loopB (F_ref29_parse_l1) ⟨[(0, []), (4, []), (5, []), (6, [])], [(600000, (600000, [])), (6, (6, []))]⟩ (fun (s1 : (List Int) × (List S_Notice) × Int × (List Int)) => [(0, .c (eS 1 (ecI .u8) (s1.1))), (4, .c (.slc 40 600002 (List.length s1.2.1) (List.map S_Notice.cs s1.2.1))), (5, .c (.lit (.int .u64 (s1.2.2.1))))]) (fun (s1 : (List Int) × (List S_Notice) × Int × (List Int)) => [(6, .box (arrS .u8 16 s1.2.2.2)), (600000, .spare 39 40 (List.length s1.2.1))]) (a0, ([] : List S_Notice), 0, [0, 0, 0, 0, 0, 0, 0, 0, 0, 0, 0, 0, 0, 0, 0, 0]) y3 (.exit 0) (fun (b : (List S_Notice)) => (Sum.inl b : ((List S_Notice)) ⊕ ((List S_Notice) × Bool))) ⟨[(4, [])], [(600000, (600000, []))]⟩ (fun (b2 : (List S_Notice)) => [(4, .c (.slc 40 600002 (List.length b2) (List.map S_Notice.cs b2)))]) (fun (b2 : (List S_Notice)) => [(600000, .spare 39 40 (List.length b2))]) hl1 (by kernel_rfl) (by kernel_rfl) ?_ ?_
  · intro s1 x h hy1
    unfold F_ref29_parse_l1 at h
    refine TS_go 7 ?_
    replace h := condO h
    rcases h with ⟨hb4, h⟩ | ⟨hb4, h⟩
    · refine TS_know 13 (b := true) hb4 (by kernel_rfl) (by kernel_rfl) ?_
      refine TS_T (by kernel_rfl) rfl ?_
      refine TS_go 9 ?_
      replace h := condO h
      rcases h with ⟨hb5, h⟩ | ⟨hb5, h⟩
      · refine TS_know 16 (b := true) hb5 (by kernel_rfl) (by kernel_rfl) ?_
        refine TS_know 17 (b := true) hb5 (by kernel_rfl) (by kernel_rfl) ?_
        refine TS_go 10 ?_
        refine TS_T (by kernel_rfl) rfl ?_
        refine TS_go 5 ?_
        refine TS_nilT 2 600001 39 40 (by kernel_rfl) ?_
        refine TS_fitU ⟨[(2, []), (3, [])], [(600001, (900000, []))]⟩ (by kernel_rfl) ?_
        refine TS_go 3 ?_
        have ret := Option.some.inj h
        subst ret
        have hy1q := hy1 _ rfl
        subst hy1q
        replace h := (elimR hK1)
        refine TS_retB rfl (by kernel_rfl) ?_
        refine TS_go 2 ?_
        have ret := Option.some.inj h
        subst ret
        exact TS_ret (by kernel_rfl) (by kernel_rfl) (by kernel_rfl)
      · refine TS_know 16 (b := false) hb5 (by kernel_rfl) (by kernel_rfl) ?_
        refine TS_know 17 (b := false) hb5 (by kernel_rfl) (by kernel_rfl) ?_
        refine TS_go 3 ?_
        replace h := bindO h
        obtain ⟨_e6, he6, h⟩ := h
        refine TS_idx (ecI .u8) he6 (by kernel_rfl) (by kernel_rfl) ?_
        refine TS_go 6 ?_
        replace h := condO h
        rcases h with ⟨hb7, h⟩ | ⟨hb7, h⟩
        · refine TS_know 25 (b := true) hb7 (by kernel_rfl) (by kernel_rfl) ?_
          refine TS_know 26 (b := true) hb7 (by kernel_rfl) (by kernel_rfl) ?_
          refine TS_T (by kernel_rfl) rfl ?_
          refine TS_go 5 ?_
          refine TS_nilT 2 600001 39 40 (by kernel_rfl) ?_
          refine TS_fitU ⟨[(2, []), (3, [])], [(600001, (900000, []))]⟩ (by kernel_rfl) ?_
          refine TS_go 3 ?_
          have ret := Option.some.inj h
          subst ret
          have hy1q := hy1 _ rfl
          subst hy1q
          replace h := (elimR hK1)
          refine TS_retB rfl (by kernel_rfl) ?_
          refine TS_go 2 ?_
          have ret := Option.some.inj h
          subst ret
          exact TS_ret (by kernel_rfl) (by kernel_rfl) (by kernel_rfl)
        · refine TS_know 25 (b := false) hb7 (by kernel_rfl) (by kernel_rfl) ?_
          refine TS_know 26 (b := false) hb7 (by kernel_rfl) (by kernel_rfl) ?_
          refine TS_F (by kernel_rfl) rfl ?_
          refine TS_go 2 ?_
          refine TS_draw (by kernel_rfl) ?_
          refine TD_go 1 ?_
          replace h := bindO h
          obtain ⟨e8, he8, h⟩ := h
          refine TD_idx (ecI .u8) he8 (by kernel_rfl) (by kernel_rfl) ?_
          refine TD_go 3 ?_
          replace h := bindO h
          obtain ⟨_e9, he9, h⟩ := h
          refine TD_idx (ecI .u8) he9 (by kernel_rfl) (by kernel_rfl) ?_
          refine TD_go 3 ?_
          replace h := bindO h
          obtain ⟨l10, hl10, h⟩ := h
          refine TD_sub (ecI .u8) 1 hl10 (by kernel_rfl) (by kernel_rfl) ?_
          refine TD_go 2 ?_
          refine TD_end (by kernel_rfl) ?_
          refine TS_go 4 ?_
          replace h := bindO h
          obtain ⟨_e11, he11, h⟩ := h
          refine TS_idx (ecI .u8) he11 (by kernel_rfl) (by kernel_rfl) ?_
          refine TS_go 3 ?_
          replace h := bindO h
          obtain ⟨l12, hl12, h⟩ := h
          refine TS_sub (ecI .u8) 1 hl12 (by kernel_rfl) (by kernel_rfl) ?_
          refine TS_go 14 ?_
          refine TS_cut ⟨[(0, []), (4, []), (5, []), (6, []), (7, []), (8, []), (9, []), (10, [])], [(600000, (600000, [])), (6, (6, [])), (9, (9, []))]⟩ (.mk [.code (codeAt [1, 1, 1, 1, 0, 0, 0, 1, 0, 1, 1, 1, 1, 1] (bodyOf Try.f69)), .blk 1] .normal ⟨[(0, .c (.slc 1 0 (List.length l12) (List.map (ecI .u8) l12))), (4, .c (.slc 40 600002 (List.length s1.2.1) (List.map S_Notice.cs s1.2.1))), (5, .c (.lit (.int .u64 (s1.2.2.1)))), (6, .c (.box 6 0)), (7, .c (.lit (.int .u8 (e8)))), (8, .c (.slc 1 0 (List.length l10) (List.map (ecI .u8) l10))), (9, .c (.box 9 0)), (10, .c (.lit (.bool (true))))], [(600000, .spare 39 40 (List.length s1.2.1)), (6, .box [.lit (.int .u8 ((s1.2.2.2.getD 0 0))), .lit (.int .u8 ((s1.2.2.2.getD 1 0))), .lit (.int .u8 ((s1.2.2.2.getD 2 0))), .lit (.int .u8 ((s1.2.2.2.getD 3 0))), .lit (.int .u8 ((s1.2.2.2.getD 4 0))), .lit (.int .u8 ((s1.2.2.2.getD 5 0))), .lit (.int .u8 ((s1.2.2.2.getD 6 0))), .lit (.int .u8 ((s1.2.2.2.getD 7 0))), .lit (.int .u8 ((s1.2.2.2.getD 8 0))), .lit (.int .u8 ((s1.2.2.2.getD 9 0))), .lit (.int .u8 ((s1.2.2.2.getD 10 0))), .lit (.int .u8 ((s1.2.2.2.getD 11 0))), .lit (.int .u8 ((s1.2.2.2.getD 12 0))), .lit (.int .u8 ((s1.2.2.2.getD 13 0))), .lit (.int .u8 ((s1.2.2.2.getD 14 0))), .lit (.int .u8 ((s1.2.2.2.getD 15 0)))]), (9, .box [.lit (.int .i64 (IntKind.wrap .i64 e8)), .lit (.int .u16 (0)), .lit (.int .i64 (0)), .lit (.int .u64 (0)), .lit (.int .u8 (0)), .lit (.int .u8 (0)), .lit (.int .u8 (0)), .lit (.int .u8 (0)), .lit (.int .u8 (0)), .lit (.int .u8 (0)), .lit (.int .u8 (0)), .lit (.int .u8 (0)), .lit (.int .u8 (0)), .lit (.int .u8 (0)), .lit (.int .u8 (0)), .lit (.int .u8 (0)), .lit (.int .u8 (0)), .lit (.int .u8 (0)), .lit (.int .u8 (0)), .lit (.int .u8 (0)), .lit (.int .i64 (0)), .lit (.int .u8 (0)), .lit (.int .u8 (0)), .lit (.int .u8 (0)), .lit (.int .u8 (0)), .lit (.int .u8 (0)), .lit (.int .u8 (0)), .lit (.int .u8 (0)), .lit (.int .u8 (0)), .lit (.int .u8 (0)), .lit (.int .u8 (0)), .lit (.int .u8 (0)), .lit (.int .u8 (0)), .lit (.int .u8 (0)), .lit (.int .u8 (0)), .lit (.int .u8 (0)), .lit (.int .u8 (0)), .lit (.int .i64 (0)), .lit (.int .u64 (0)), .lit (.int .i64 (0))])]⟩) (by kernel_rfl) (by kernel_rfl) ?_
          refine TS_joinB ⟨[(0, []), (4, []), (5, []), (6, []), (9, []), (10, [])], [(600000, (600000, [])), (6, (6, [])), (9, (9, []))]⟩ (fun (v13 : Bool × (List Int) × S_Notice) => [(10, .c (.lit (.bool (v13.1))))]) (fun (v13 : Bool × (List Int) × S_Notice) => [(6, .box (arrS .u8 16 v13.2.1)), (9, .box (S_Notice.cs v13.2.2))]) (F_ref29_parse_j2 s1 l12) x ?_ ?_
          · clear h
            intro v13 h
            unfold F_ref29_parse_j2 at h
            refine TS_go 6 ?_
            replace h := condO h
            rcases h with ⟨hb14, h⟩ | ⟨hb14, h⟩
            · refine TS_know 10 (b := true) hb14 (by kernel_rfl) (by kernel_rfl) ?_
              refine TS_know 188 (b := true) hb14 (by kernel_rfl) (by kernel_rfl) ?_
              refine TS_know 189 (b := false) (notF hb14) (by kernel_rfl) (by kernel_rfl) ?_
              refine TS_F (by kernel_rfl) rfl ?_
              refine TS_go 4 ?_
              refine TS_litNT 192 39 40 S_Notice.cs [] ([v13.2.2] : List S_Notice) (by kernel_rfl) (by kernel_rfl) ?_
              replace h := bindO h
              obtain ⟨_l15, hl15, h⟩ := h
              refine TS_appT (d := 600000) (e := 39) (sz := 40) (N := List.length s1.2.1) S_Notice.cs (fun _ => by kernel_rfl) (l1 := s1.2.1) (l2 := ([v13.2.2] : List S_Notice)) (c := .whole) hl15 (by kernel_rfl) (by kernel_rfl) ?_
              refine TS_go 3 ?_
              have ret := Option.some.inj h
              subst ret
              exact TS_againB _ ⟨[(0, []), (4, []), (5, []), (6, [])], [(600000, (600000, [])), (6, (6, []))]⟩ rfl (by kernel_rfl) (by kernel_rfl)
            · refine TS_know 10 (b := false) hb14 (by kernel_rfl) (by kernel_rfl) ?_
              refine TS_know 188 (b := false) hb14 (by kernel_rfl) (by kernel_rfl) ?_
              refine TS_know 189 (b := true) (notT hb14) (by kernel_rfl) (by kernel_rfl) ?_
              refine TS_T (by kernel_rfl) rfl ?_
              refine TS_go 5 ?_
              refine TS_nilT 2 600001 39 40 (by kernel_rfl) ?_
              refine TS_fitU ⟨[(2, []), (3, [])], [(600001, (900000, []))]⟩ (by kernel_rfl) ?_
              refine TS_go 3 ?_
              have ret := Option.some.inj h
              subst ret
              have hy1q := hy1 _ rfl
              subst hy1q
              replace h := (elimR hK1)
              refine TS_retB rfl (by kernel_rfl) ?_
              refine TS_go 2 ?_
              have ret := Option.some.inj h
              subst ret
              exact TS_ret (by kernel_rfl) (by kernel_rfl) (by kernel_rfl)
          · refine TS_go 6 ?_
            replace h := condO h
            rcases h with ⟨hb16, h⟩ | ⟨hb16, h⟩
            · refine TS_know 49 (b := true) hb16 (by kernel_rfl) (by kernel_rfl) ?_
              refine TS_know 50 (b := true) hb16 (by kernel_rfl) (by kernel_rfl) ?_
              refine TS_go 6 ?_
              replace h := condO h
              rcases h with ⟨hb17, h⟩ | ⟨hb17, h⟩
              · refine TS_know 53 (b := true) hb17 (by kernel_rfl) (by kernel_rfl) ?_
                refine TS_know 54 (b := true) hb17 (by kernel_rfl) (by kernel_rfl) ?_
                refine TS_know 47 (b := true) hb17 (by kernel_rfl) (by kernel_rfl) ?_
                refine TS_T (by kernel_rfl) rfl ?_
                refine TS_go 2 ?_
                replace h := bindO h
                obtain ⟨v18, hv18, h⟩ := h
                refine TS_call [] (ok_ref29_Get l10 0 2 v18 hv18) (by kernel_rfl) (by kernel_rfl) ?_
                refine TS_go 5 ?_
                exact TS_meet (true, s1.2.2.2, (S_Notice.mk (IntKind.wrap .i64 e8) (IntKind.wrap .u16 v18) 0 0 (S_Destination.mk (S_Prefix.mk [0, 0, 0, 0, 0, 0, 0, 0, 0, 0, 0, 0, 0, 0, 0, 0] 0) (S_Prefix.mk [0, 0, 0, 0, 0, 0, 0, 0, 0, 0, 0, 0, 0, 0, 0, 0] 0) 0) 0)) ⟨[(0, []), (4, []), (5, []), (6, []), (9, []), (10, [])], [(600000, (600000, [])), (6, (6, [])), (9, (9, []))]⟩ h (by kernel_rfl) (by kernel_rfl)
              · refine TS_know 53 (b := false) hb17 (by kernel_rfl) (by kernel_rfl) ?_
                refine TS_know 54 (b := false) hb17 (by kernel_rfl) (by kernel_rfl) ?_
                refine TS_know 47 (b := false) hb17 (by kernel_rfl) (by kernel_rfl) ?_
                refine TS_F (by kernel_rfl) rfl ?_
                refine TS_go 5 ?_
                replace h := condO h
                rcases h with ⟨hb19, h⟩ | ⟨hb19, h⟩
                · refine TS_know 61 (b := true) hb19 (by kernel_rfl) (by kernel_rfl) ?_
                  refine TS_know 62 (b := true) hb19 (by kernel_rfl) (by kernel_rfl) ?_
                  refine TS_go 6 ?_
                  replace h := condO h
                  rcases h with ⟨hb20, h⟩ | ⟨hb20, h⟩
                  · refine TS_know 65 (b := true) hb20 (by kernel_rfl) (by kernel_rfl) ?_
                    refine TS_know 66 (b := true) hb20 (by kernel_rfl) (by kernel_rfl) ?_
                    refine TS_know 59 (b := true) hb20 (by kernel_rfl) (by kernel_rfl) ?_
                    refine TS_T (by kernel_rfl) rfl ?_
                    refine TS_go 3 ?_
                    replace h := bindO h
                    obtain ⟨v21, hv21, h⟩ := h
                    refine TS_call [] (ok_ref29_Get l10 0 8 v21 hv21) (by kernel_rfl) (by kernel_rfl) ?_
                    refine TS_go 5 ?_
                    replace h := bindO h
                    obtain ⟨v22, hv22, h⟩ := h
                    refine TS_call [] (ok_ref29_Get l10 8 2 v22 hv22) (by kernel_rfl) (by kernel_rfl) ?_
                    refine TS_go 5 ?_
                    exact TS_meet (true, s1.2.2.2, (S_Notice.mk (IntKind.wrap .i64 e8) 0 (IntKind.wrap .i64 v22) v21 (S_Destination.mk (S_Prefix.mk [0, 0, 0, 0, 0, 0, 0, 0, 0, 0, 0, 0, 0, 0, 0, 0] 0) (S_Prefix.mk [0, 0, 0, 0, 0, 0, 0, 0, 0, 0, 0, 0, 0, 0, 0, 0] 0) 0) 0)) ⟨[(0, []), (4, []), (5, []), (6, []), (9, []), (10, [])], [(600000, (600000, [])), (6, (6, [])), (9, (9, []))]⟩ h (by kernel_rfl) (by kernel_rfl)
                  · refine TS_know 65 (b := false) hb20 (by kernel_rfl) (by kernel_rfl) ?_
                    refine TS_know 66 (b := false) hb20 (by kernel_rfl) (by kernel_rfl) ?_
                    refine TS_know 59 (b := false) hb20 (by kernel_rfl) (by kernel_rfl) ?_
                    refine TS_F (by kernel_rfl) rfl ?_
                    refine TS_go 5 ?_
                    replace h := condO h
                    rcases h with ⟨hb23, h⟩ | ⟨hb23, h⟩
                    · refine TS_know 76 (b := true) hb23 (by kernel_rfl) (by kernel_rfl) ?_
                      refine TS_know 77 (b := true) hb23 (by kernel_rfl) (by kernel_rfl) ?_
                      refine TS_go 6 ?_
                      replace h := condO h
                      rcases h with ⟨hb24, h⟩ | ⟨hb24, h⟩
                      · refine TS_know 80 (b := true) hb24 (by kernel_rfl) (by kernel_rfl) ?_
                        refine TS_know 81 (b := true) hb24 (by kernel_rfl) (by kernel_rfl) ?_
                        refine TS_know 74 (b := true) hb24 (by kernel_rfl) (by kernel_rfl) ?_
                        refine TS_T (by kernel_rfl) rfl ?_
                        refine TS_go 3 ?_
                        replace h := bindO h
                        obtain ⟨v25, hv25, h⟩ := h
                        refine TS_call [] (ok_ref29_Get l10 3 2 v25 hv25) (by kernel_rfl) (by kernel_rfl) ?_
                        refine TS_go 7 ?_
                        replace h := bindO h
                        obtain ⟨v26, hv26, h⟩ := h
                        refine TS_call [] (ok_ref29_Get l10 5 2 v26 hv26) (by kernel_rfl) (by kernel_rfl) ?_
                        refine TS_go 5 ?_
                        refine TS_draw (by kernel_rfl) ?_
                        refine TD_go 1 ?_
                        replace h := bindO h
                        obtain ⟨l27, hl27, h⟩ := h
                        refine TD_sub (ecI .u8) 1 hl27 (by kernel_rfl) (by kernel_rfl) ?_
                        refine TD_go 1 ?_
                        replace h := bindO h
                        obtain ⟨e28, he28, h⟩ := h
                        refine TD_idx (ecI .u8) he28 (by kernel_rfl) (by kernel_rfl) ?_
                        refine TD_go 3 ?_
                        replace h := bindO h
                        obtain ⟨e29, he29, h⟩ := h
                        refine TD_idx (ecI .u8) he29 (by kernel_rfl) (by kernel_rfl) ?_
                        refine TD_go 3 ?_
                        replace h := bindO h
                        obtain ⟨e30, he30, h⟩ := h
                        refine TD_idx (ecI .u8) he30 (by kernel_rfl) (by kernel_rfl) ?_
                        refine TD_go 3 ?_
                        replace h := bindO h
                        obtain ⟨v31, hv31, h⟩ := h
                        refine TD_call [] (ok_ref29_both l27 (IntKind.wrap .i64 e28) (IntKind.wrap .i64 e29) (IntKind.wrap .i64 e30) s1.2.2.2 v31 hv31) (by kernel_rfl) (by kernel_rfl) ?_
                        refine TD_go 6 ?_
                        refine TD_end (by kernel_rfl) ?_
                        refine TS_go 15 ?_
                        exact TS_meet (v31.2, v31.1.Dst.IP, (S_Notice.mk (IntKind.wrap .i64 e8) (IntKind.wrap .u16 v25) (IntKind.wrap .i64 v26) 0 (S_Destination.mk v31.1.Dst v31.1.Src s1.2.2.1) 0)) ⟨[(0, []), (4, []), (5, []), (6, []), (9, []), (10, [])], [(600000, (600000, [])), (6, (6, [])), (9, (9, []))]⟩ h (by kernel_rfl) (by kernel_rfl)
                      · refine TS_know 80 (b := false) hb24 (by kernel_rfl) (by kernel_rfl) ?_
                        refine TS_know 81 (b := false) hb24 (by kernel_rfl) (by kernel_rfl) ?_
                        refine TS_know 74 (b := false) hb24 (by kernel_rfl) (by kernel_rfl) ?_
                        refine TS_F (by kernel_rfl) rfl ?_
                        refine TS_go 5 ?_
                        replace h := condO h
                        rcases h with ⟨hb32, h⟩ | ⟨hb32, h⟩
                        · refine TS_know 119 (b := true) hb32 (by kernel_rfl) (by kernel_rfl) ?_
                          refine TS_know 120 (b := true) hb32 (by kernel_rfl) (by kernel_rfl) ?_
                          refine TS_go 6 ?_
                          replace h := condO h
                          rcases h with ⟨hb33, h⟩ | ⟨hb33, h⟩
                          · refine TS_know 123 (b := true) hb33 (by kernel_rfl) (by kernel_rfl) ?_
                            refine TS_know 124 (b := true) hb33 (by kernel_rfl) (by kernel_rfl) ?_
                            refine TS_know 117 (b := true) hb33 (by kernel_rfl) (by kernel_rfl) ?_
                            refine TS_T (by kernel_rfl) rfl ?_
                            refine TS_draw (by kernel_rfl) ?_
                            refine TD_go 1 ?_
                            replace h := bindO h
                            obtain ⟨l34, hl34, h⟩ := h
                            refine TD_sub (ecI .u8) 1 hl34 (by kernel_rfl) (by kernel_rfl) ?_
                            refine TD_go 1 ?_
                            replace h := bindO h
                            obtain ⟨e35, he35, h⟩ := h
                            refine TD_idx (ecI .u8) he35 (by kernel_rfl) (by kernel_rfl) ?_
                            refine TD_go 3 ?_
                            replace h := bindO h
                            obtain ⟨e36, he36, h⟩ := h
                            refine TD_idx (ecI .u8) he36 (by kernel_rfl) (by kernel_rfl) ?_
                            refine TD_go 3 ?_
                            replace h := bindO h
                            obtain ⟨v37, hv37, h⟩ := h
                            refine TD_call [] (ok_ref29_both l34 (IntKind.wrap .i64 e35) (IntKind.wrap .i64 e36) 0 [0, 0, 0, 0, 0, 0, 0, 0, 0, 0, 0, 0, 0, 0, 0, 0] v37 hv37) (by kernel_rfl) (by kernel_rfl) ?_
                            refine TD_go 6 ?_
                            refine TD_end (by kernel_rfl) ?_
                            refine TS_go 1 ?_
                            exact TS_meet (v37.2, s1.2.2.2, (S_Notice.mk (IntKind.wrap .i64 e8) 0 0 0 v37.1 0)) ⟨[(0, []), (4, []), (5, []), (6, []), (9, []), (10, [])], [(600000, (600000, [])), (6, (6, [])), (9, (9, []))]⟩ h (by kernel_rfl) (by kernel_rfl)
                          · refine TS_know 123 (b := false) hb33 (by kernel_rfl) (by kernel_rfl) ?_
                            refine TS_know 124 (b := false) hb33 (by kernel_rfl) (by kernel_rfl) ?_
                            refine TS_know 117 (b := false) hb33 (by kernel_rfl) (by kernel_rfl) ?_
                            refine TS_F (by kernel_rfl) rfl ?_
                            refine TS_go 5 ?_
                            replace h := condO h
                            rcases h with ⟨hb38, h⟩ | ⟨hb38, h⟩
                            · refine TS_know 143 (b := true) hb38 (by kernel_rfl) (by kernel_rfl) ?_
                              refine TS_know 144 (b := true) hb38 (by kernel_rfl) (by kernel_rfl) ?_
                              refine TS_go 6 ?_
                              replace h := condO h
                              rcases h with ⟨hb39, h⟩ | ⟨hb39, h⟩
                              · refine TS_know 147 (b := true) hb39 (by kernel_rfl) (by kernel_rfl) ?_
                                refine TS_know 148 (b := true) hb39 (by kernel_rfl) (by kernel_rfl) ?_
                                refine TS_know 141 (b := true) hb39 (by kernel_rfl) (by kernel_rfl) ?_
                                refine TS_T (by kernel_rfl) rfl ?_
                                refine TS_go 3 ?_
                                replace h := bindO h
                                obtain ⟨v40, hv40, h⟩ := h
                                refine TS_call [] (ok_ref29_Get l10 2 2 v40 hv40) (by kernel_rfl) (by kernel_rfl) ?_
                                refine TS_go 7 ?_
                                replace h := bindO h
                                obtain ⟨e41, he41, h⟩ := h
                                refine TS_idx (ecI .u8) he41 (by kernel_rfl) (by kernel_rfl) ?_
                                refine TS_go 6 ?_
                                refine TS_draw (by kernel_rfl) ?_
                                refine TD_go 1 ?_
                                replace h := bindO h
                                obtain ⟨l42, hl42, h⟩ := h
                                refine TD_sub (ecI .u8) 1 hl42 (by kernel_rfl) (by kernel_rfl) ?_
                                refine TD_go 1 ?_
                                replace h := bindO h
                                obtain ⟨e43, he43, h⟩ := h
                                refine TD_idx (ecI .u8) he43 (by kernel_rfl) (by kernel_rfl) ?_
                                refine TD_go 3 ?_
                                replace h := bindO h
                                obtain ⟨e44, he44, h⟩ := h
                                refine TD_idx (ecI .u8) he44 (by kernel_rfl) (by kernel_rfl) ?_
                                refine TD_go 3 ?_
                                replace h := bindO h
                                obtain ⟨v45, hv45, h⟩ := h
                                refine TD_call [] (ok_ref29_both l42 (IntKind.wrap .i64 e43) (IntKind.wrap .i64 e44) 0 [0, 0, 0, 0, 0, 0, 0, 0, 0, 0, 0, 0, 0, 0, 0, 0] v45 hv45) (by kernel_rfl) (by kernel_rfl) ?_
                                refine TD_go 6 ?_
                                refine TD_end (by kernel_rfl) ?_
                                refine TS_go 2 ?_
                                replace h := bindO h
                                obtain ⟨v46, hv46, h⟩ := h
                                refine TS_call [] (ok_ref29_Get l10 5 8 v46 hv46) (by kernel_rfl) (by kernel_rfl) ?_
                                refine TS_go 5 ?_
                                exact TS_meet (v45.2, s1.2.2.2, (S_Notice.mk (IntKind.wrap .i64 e8) (IntKind.wrap .u16 v40) 0 0 (S_Destination.mk v45.1.Dst v45.1.Src v46) (IntKind.wrap .i64 e41))) ⟨[(0, []), (4, []), (5, []), (6, []), (9, []), (10, [])], [(600000, (600000, [])), (6, (6, [])), (9, (9, []))]⟩ h (by kernel_rfl) (by kernel_rfl)
                              · refine TS_know 147 (b := false) hb39 (by kernel_rfl) (by kernel_rfl) ?_
                                refine TS_know 148 (b := false) hb39 (by kernel_rfl) (by kernel_rfl) ?_
                                refine TS_know 141 (b := false) hb39 (by kernel_rfl) (by kernel_rfl) ?_
                                refine TS_F (by kernel_rfl) rfl ?_
                                refine TS_go 5 ?_
                                replace h := condO h
                                rcases h with ⟨hb47, h⟩ | ⟨hb47, h⟩
                                · refine TS_know 180 (b := true) hb47 (by kernel_rfl) (by kernel_rfl) ?_
                                  refine TS_know 181 (b := true) hb47 (by kernel_rfl) (by kernel_rfl) ?_
                                  refine TS_go 6 ?_
                                  replace h := condO h
                                  rcases h with ⟨hb48, h⟩ | ⟨hb48, h⟩
                                  · refine TS_know 184 (b := true) hb48 (by kernel_rfl) (by kernel_rfl) ?_
                                    refine TS_know 185 (b := true) hb48 (by kernel_rfl) (by kernel_rfl) ?_
                                    refine TS_know 178 (b := true) hb48 (by kernel_rfl) (by kernel_rfl) ?_
                                    refine TS_T (by kernel_rfl) rfl ?_
                                    refine TS_go 3 ?_
                                    replace h := bindO h
                                    obtain ⟨v49, hv49, h⟩ := h
                                    refine TS_call [] (ok_ref29_Get l10 0 8 v49 hv49) (by kernel_rfl) (by kernel_rfl) ?_
                                    refine TS_go 4 ?_
                                    refine TS_outJ (by kernel_rfl) ?_
                                    refine TS_go 1 ?_
                                    have ret := Option.some.inj h
                                    subst ret
                                    exact TS_againB _ ⟨[(0, []), (4, []), (5, []), (6, [])], [(600000, (600000, [])), (6, (6, []))]⟩ rfl (by kernel_rfl) (by kernel_rfl)
                                  · refine TS_know 184 (b := false) hb48 (by kernel_rfl) (by kernel_rfl) ?_
                                    refine TS_know 185 (b := false) hb48 (by kernel_rfl) (by kernel_rfl) ?_
                                    refine TS_know 178 (b := false) hb48 (by kernel_rfl) (by kernel_rfl) ?_
                                    refine TS_F (by kernel_rfl) rfl ?_
                                    refine TS_go 5 ?_
                                    refine TS_nilT 2 600001 39 40 (by kernel_rfl) ?_
                                    refine TS_fitU ⟨[(2, []), (3, [])], [(600001, (900000, []))]⟩ (by kernel_rfl) ?_
                                    refine TS_go 2 ?_
                                    refine TS_outJ (by kernel_rfl) ?_
                                    refine TS_go 1 ?_
                                    have ret := Option.some.inj h
                                    subst ret
                                    have hy1q := hy1 _ rfl
                                    subst hy1q
                                    replace h := (elimR hK1)
                                    refine TS_retB rfl (by kernel_rfl) ?_
                                    refine TS_go 2 ?_
                                    have ret := Option.some.inj h
                                    subst ret
                                    exact TS_ret (by kernel_rfl) (by kernel_rfl) (by kernel_rfl)
                                · refine TS_know 180 (b := false) hb47 (by kernel_rfl) (by kernel_rfl) ?_
                                  refine TS_know 181 (b := false) hb47 (by kernel_rfl) (by kernel_rfl) ?_
                                  refine TS_go 6 ?_
                                  refine TS_F (by kernel_rfl) rfl ?_
                                  refine TS_go 5 ?_
                                  refine TS_nilT 2 600001 39 40 (by kernel_rfl) ?_
                                  refine TS_fitU ⟨[(2, []), (3, [])], [(600001, (900000, []))]⟩ (by kernel_rfl) ?_
                                  refine TS_go 2 ?_
                                  refine TS_outJ (by kernel_rfl) ?_
                                  refine TS_go 1 ?_
                                  have ret := Option.some.inj h
                                  subst ret
                                  have hy1q := hy1 _ rfl
                                  subst hy1q
                                  replace h := (elimR hK1)
                                  refine TS_retB rfl (by kernel_rfl) ?_
                                  refine TS_go 2 ?_
                                  have ret := Option.some.inj h
                                  subst ret
                                  exact TS_ret (by kernel_rfl) (by kernel_rfl) (by kernel_rfl)
                            · refine TS_know 143 (b := false) hb38 (by kernel_rfl) (by kernel_rfl) ?_
                              refine TS_know 144 (b := false) hb38 (by kernel_rfl) (by kernel_rfl) ?_
                              refine TS_go 6 ?_
                              refine TS_F (by kernel_rfl) rfl ?_
                              refine TS_go 5 ?_
                              replace h := condO h
                              rcases h with ⟨hb50, h⟩ | ⟨hb50, h⟩
                              · refine TS_know 180 (b := true) hb50 (by kernel_rfl) (by kernel_rfl) ?_
                                refine TS_know 181 (b := true) hb50 (by kernel_rfl) (by kernel_rfl) ?_
                                refine TS_go 6 ?_
                                replace h := condO h
                                rcases h with ⟨hb51, h⟩ | ⟨hb51, h⟩
                                · refine TS_know 184 (b := true) hb51 (by kernel_rfl) (by kernel_rfl) ?_
                                  refine TS_know 185 (b := true) hb51 (by kernel_rfl) (by kernel_rfl) ?_
                                  refine TS_know 178 (b := true) hb51 (by kernel_rfl) (by kernel_rfl) ?_
                                  refine TS_T (by kernel_rfl) rfl ?_
                                  refine TS_go 3 ?_
                                  replace h := bindO h
                                  obtain ⟨v52, hv52, h⟩ := h
                                  refine TS_call [] (ok_ref29_Get l10 0 8 v52 hv52) (by kernel_rfl) (by kernel_rfl) ?_
                                  refine TS_go 4 ?_
                                  refine TS_outJ (by kernel_rfl) ?_
                                  refine TS_go 1 ?_
                                  have ret := Option.some.inj h
                                  subst ret
                                  exact TS_againB _ ⟨[(0, []), (4, []), (5, []), (6, [])], [(600000, (600000, [])), (6, (6, []))]⟩ rfl (by kernel_rfl) (by kernel_rfl)
                                · refine TS_know 184 (b := false) hb51 (by kernel_rfl) (by kernel_rfl) ?_
                                  refine TS_know 185 (b := false) hb51 (by kernel_rfl) (by kernel_rfl) ?_
                                  refine TS_know 178 (b := false) hb51 (by kernel_rfl) (by kernel_rfl) ?_
                                  refine TS_F (by kernel_rfl) rfl ?_
                                  refine TS_go 5 ?_
                                  refine TS_nilT 2 600001 39 40 (by kernel_rfl) ?_
                                  refine TS_fitU ⟨[(2, []), (3, [])], [(600001, (900000, []))]⟩ (by kernel_rfl) ?_
                                  refine TS_go 2 ?_
                                  refine TS_outJ (by kernel_rfl) ?_
                                  refine TS_go 1 ?_
                                  have ret := Option.some.inj h
                                  subst ret
                                  have hy1q := hy1 _ rfl
                                  subst hy1q
                                  replace h := (elimR hK1)
                                  refine TS_retB rfl (by kernel_rfl) ?_
                                  refine TS_go 2 ?_
                                  have ret := Option.some.inj h
                                  subst ret
                                  exact TS_ret (by kernel_rfl) (by kernel_rfl) (by kernel_rfl)
                              · refine TS_know 180 (b := false) hb50 (by kernel_rfl) (by kernel_rfl) ?_
                                refine TS_know 181 (b := false) hb50 (by kernel_rfl) (by kernel_rfl) ?_
                                refine TS_go 6 ?_
                                refine TS_F (by kernel_rfl) rfl ?_
                                refine TS_go 5 ?_
                                refine TS_nilT 2 600001 39 40 (by kernel_rfl) ?_
                                refine TS_fitU ⟨[(2, []), (3, [])], [(600001, (900000, []))]⟩ (by kernel_rfl) ?_
                                refine TS_go 2 ?_
                                refine TS_outJ (by kernel_rfl) ?_
                                refine TS_go 1 ?_
                                have ret := Option.some.inj h
                                subst ret
                                have hy1q := hy1 _ rfl
                                subst hy1q
                                replace h := (elimR hK1)
                                refine TS_retB rfl (by kernel_rfl) ?_
                                refine TS_go 2 ?_
                                have ret := Option.some.inj h
                                subst ret
                                exact TS_ret (by kernel_rfl) (by kernel_rfl) (by kernel_rfl)
                        · refine TS_know 119 (b := false) hb32 (by kernel_rfl) (by kernel_rfl) ?_
                          refine TS_know 120 (b := false) hb32 (by kernel_rfl) (by kernel_rfl) ?_
                          refine TS_go 6 ?_
                          refine TS_F (by kernel_rfl) rfl ?_
                          refine TS_go 5 ?_
                          replace h := condO h
                          rcases h with ⟨hb53, h⟩ | ⟨hb53, h⟩
                          · refine TS_know 143 (b := true) hb53 (by kernel_rfl) (by kernel_rfl) ?_
                            refine TS_know 144 (b := true) hb53 (by kernel_rfl) (by kernel_rfl) ?_
                            refine TS_go 6 ?_
                            replace h := condO h
                            rcases h with ⟨hb54, h⟩ | ⟨hb54, h⟩
                            · refine TS_know 147 (b := true) hb54 (by kernel_rfl) (by kernel_rfl) ?_
                              refine TS_know 148 (b := true) hb54 (by kernel_rfl) (by kernel_rfl) ?_
                              refine TS_know 141 (b := true) hb54 (by kernel_rfl) (by kernel_rfl) ?_
                              refine TS_T (by kernel_rfl) rfl ?_
                              refine TS_go 3 ?_
                              replace h := bindO h
                              obtain ⟨v55, hv55, h⟩ := h
                              refine TS_call [] (ok_ref29_Get l10 2 2 v55 hv55) (by kernel_rfl) (by kernel_rfl) ?_
                              refine TS_go 7 ?_
                              replace h := bindO h
                              obtain ⟨e56, he56, h⟩ := h
                              refine TS_idx (ecI .u8) he56 (by kernel_rfl) (by kernel_rfl) ?_
                              refine TS_go 6 ?_
                              refine TS_draw (by kernel_rfl) ?_
                              refine TD_go 1 ?_
                              replace h := bindO h
                              obtain ⟨l57, hl57, h⟩ := h
                              refine TD_sub (ecI .u8) 1 hl57 (by kernel_rfl) (by kernel_rfl) ?_
                              refine TD_go 1 ?_
                              replace h := bindO h
                              obtain ⟨e58, he58, h⟩ := h
                              refine TD_idx (ecI .u8) he58 (by kernel_rfl) (by kernel_rfl) ?_
                              refine TD_go 3 ?_
                              replace h := bindO h
                              obtain ⟨e59, he59, h⟩ := h
                              refine TD_idx (ecI .u8) he59 (by kernel_rfl) (by kernel_rfl) ?_
                              refine TD_go 3 ?_
                              replace h := bindO h
                              obtain ⟨v60, hv60, h⟩ := h
                              refine TD_call [] (ok_ref29_both l57 (IntKind.wrap .i64 e58) (IntKind.wrap .i64 e59) 0 [0, 0, 0, 0, 0, 0, 0, 0, 0, 0, 0, 0, 0, 0, 0, 0] v60 hv60) (by kernel_rfl) (by kernel_rfl) ?_
                              refine TD_go 6 ?_
                              refine TD_end (by kernel_rfl) ?_
                              refine TS_go 2 ?_
                              replace h := bindO h
                              obtain ⟨v61, hv61, h⟩ := h
                              refine TS_call [] (ok_ref29_Get l10 5 8 v61 hv61) (by kernel_rfl) (by kernel_rfl) ?_
                              refine TS_go 5 ?_
                              exact TS_meet (v60.2, s1.2.2.2, (S_Notice.mk (IntKind.wrap .i64 e8) (IntKind.wrap .u16 v55) 0 0 (S_Destination.mk v60.1.Dst v60.1.Src v61) (IntKind.wrap .i64 e56))) ⟨[(0, []), (4, []), (5, []), (6, []), (9, []), (10, [])], [(600000, (600000, [])), (6, (6, [])), (9, (9, []))]⟩ h (by kernel_rfl) (by kernel_rfl)
                            · refine TS_know 147 (b := false) hb54 (by kernel_rfl) (by kernel_rfl) ?_
                              refine TS_know 148 (b := false) hb54 (by kernel_rfl) (by kernel_rfl) ?_
                              refine TS_know 141 (b := false) hb54 (by kernel_rfl) (by kernel_rfl) ?_
                              refine TS_F (by kernel_rfl) rfl ?_
                              refine TS_go 5 ?_
                              replace h := condO h
                              rcases h with ⟨hb62, h⟩ | ⟨hb62, h⟩
                              · refine TS_know 180 (b := true) hb62 (by kernel_rfl) (by kernel_rfl) ?_
                                refine TS_know 181 (b := true) hb62 (by kernel_rfl) (by kernel_rfl) ?_
                                refine TS_go 6 ?_
                                replace h := condO h
                                rcases h with ⟨hb63, h⟩ | ⟨hb63, h⟩
                                · refine TS_know 184 (b := true) hb63 (by kernel_rfl) (by kernel_rfl) ?_
                                  refine TS_know 185 (b := true) hb63 (by kernel_rfl) (by kernel_rfl) ?_
                                  refine TS_know 178 (b := true) hb63 (by kernel_rfl) (by kernel_rfl) ?_
                                  refine TS_T (by kernel_rfl) rfl ?_
                                  refine TS_go 3 ?_
                                  replace h := bindO h
                                  obtain ⟨v64, hv64, h⟩ := h
                                  refine TS_call [] (ok_ref29_Get l10 0 8 v64 hv64) (by kernel_rfl) (by kernel_rfl) ?_
                                  refine TS_go 4 ?_
                                  refine TS_outJ (by kernel_rfl) ?_
                                  refine TS_go 1 ?_
                                  have ret := Option.some.inj h
                                  subst ret
                                  exact TS_againB _ ⟨[(0, []), (4, []), (5, []), (6, [])], [(600000, (600000, [])), (6, (6, []))]⟩ rfl (by kernel_rfl) (by kernel_rfl)
                                · refine TS_know 184 (b := false) hb63 (by kernel_rfl) (by kernel_rfl) ?_
                                  refine TS_know 185 (b := false) hb63 (by kernel_rfl) (by kernel_rfl) ?_
                                  refine TS_know 178 (b := false) hb63 (by kernel_rfl) (by kernel_rfl) ?_
                                  refine TS_F (by kernel_rfl) rfl ?_
                                  refine TS_go 5 ?_
                                  refine TS_nilT 2 600001 39 40 (by kernel_rfl) ?_
                                  refine TS_fitU ⟨[(2, []), (3, [])], [(600001, (900000, []))]⟩ (by kernel_rfl) ?_
                                  refine TS_go 2 ?_
                                  refine TS_outJ (by kernel_rfl) ?_
                                  refine TS_go 1 ?_
                                  have ret := Option.some.inj h
                                  subst ret
                                  have hy1q := hy1 _ rfl
                                  subst hy1q
                                  replace h := (elimR hK1)
                                  refine TS_retB rfl (by kernel_rfl) ?_
                                  refine TS_go 2 ?_
                                  have ret := Option.some.inj h
                                  subst ret
                                  exact TS_ret (by kernel_rfl) (by kernel_rfl) (by kernel_rfl)
                              · refine TS_know 180 (b := false) hb62 (by kernel_rfl) (by kernel_rfl) ?_
                                refine TS_know 181 (b := false) hb62 (by kernel_rfl) (by kernel_rfl) ?_
                                refine TS_go 6 ?_
                                refine TS_F (by kernel_rfl) rfl ?_
                                refine TS_go 5 ?_
                                refine TS_nilT 2 600001 39 40 (by kernel_rfl) ?_
                                refine TS_fitU ⟨[(2, []), (3, [])], [(600001, (900000, []))]⟩ (by kernel_rfl) ?_
                                refine TS_go 2 ?_
                                refine TS_outJ (by kernel_rfl) ?_
                                refine TS_go 1 ?_
                                have ret := Option.some.inj h
                                subst ret
                                have hy1q := hy1 _ rfl
                                subst hy1q
                                replace h := (elimR hK1)
                                refine TS_retB rfl (by kernel_rfl) ?_
                                refine TS_go 2 ?_
                                have ret := Option.some.inj h
                                subst ret
                                exact TS_ret (by kernel_rfl) (by kernel_rfl) (by kernel_rfl)
                          · refine TS_know 143 (b := false) hb53 (by kernel_rfl) (by kernel_rfl) ?_
                            refine TS_know 144 (b := false) hb53 (by kernel_rfl) (by kernel_rfl) ?_
                            refine TS_go 6 ?_
                            refine TS_F (by kernel_rfl) rfl ?_
                            refine TS_go 5 ?_
                            replace h := condO h
                            rcases h with ⟨hb65, h⟩ | ⟨hb65, h⟩
                            · refine TS_know 180 (b := true) hb65 (by kernel_rfl) (by kernel_rfl) ?_
                              refine TS_know 181 (b := true) hb65 (by kernel_rfl) (by kernel_rfl) ?_
                              refine TS_go 6 ?_
                              replace h := condO h
                              rcases h with ⟨hb66, h⟩ | ⟨hb66, h⟩
                              · refine TS_know 184 (b := true) hb66 (by kernel_rfl) (by kernel_rfl) ?_
                                refine TS_know 185 (b := true) hb66 (by kernel_rfl) (by kernel_rfl) ?_
                                refine TS_know 178 (b := true) hb66 (by kernel_rfl) (by kernel_rfl) ?_
                                refine TS_T (by kernel_rfl) rfl ?_
                                refine TS_go 3 ?_
                                replace h := bindO h
                                obtain ⟨v67, hv67, h⟩ := h
                                refine TS_call [] (ok_ref29_Get l10 0 8 v67 hv67) (by kernel_rfl) (by kernel_rfl) ?_
                                refine TS_go 4 ?_
                                refine TS_outJ (by kernel_rfl) ?_
                                refine TS_go 1 ?_
                                have ret := Option.some.inj h
                                subst ret
                                exact TS_againB _ ⟨[(0, []), (4, []), (5, []), (6, [])], [(600000, (600000, [])), (6, (6, []))]⟩ rfl (by kernel_rfl) (by kernel_rfl)
                              · refine TS_know 184 (b := false) hb66 (by kernel_rfl) (by kernel_rfl) ?_
                                refine TS_know 185 (b := false) hb66 (by kernel_rfl) (by kernel_rfl) ?_
                                refine TS_know 178 (b := false) hb66 (by kernel_rfl) (by kernel_rfl) ?_
                                refine TS_F (by kernel_rfl) rfl ?_
                                refine TS_go 5 ?_
                                refine TS_nilT 2 600001 39 40 (by kernel_rfl) ?_
                                refine TS_fitU ⟨[(2, []), (3, [])], [(600001, (900000, []))]⟩ (by kernel_rfl) ?_
                                refine TS_go 2 ?_
                                refine TS_outJ (by kernel_rfl) ?_
                                refine TS_go 1 ?_
                                have ret := Option.some.inj h
                                subst ret
                                have hy1q := hy1 _ rfl
                                subst hy1q
                                replace h := (elimR hK1)
                                refine TS_retB rfl (by kernel_rfl) ?_
                                refine TS_go 2 ?_
                                have ret := Option.some.inj h
                                subst ret
                                exact TS_ret (by kernel_rfl) (by kernel_rfl) (by kernel_rfl)
                            · refine TS_know 180 (b := false) hb65 (by kernel_rfl) (by kernel_rfl) ?_
                              refine TS_know 181 (b := false) hb65 (by kernel_rfl) (by kernel_rfl) ?_
                              refine TS_go 6 ?_
                              refine TS_F (by kernel_rfl) rfl ?_
                              refine TS_go 5 ?_
                              refine TS_nilT 2 600001 39 40 (by kernel_rfl) ?_
                              refine TS_fitU ⟨[(2, []), (3, [])], [(600001, (900000, []))]⟩ (by kernel_rfl) ?_
                              refine TS_go 2 ?_
                              refine TS_outJ (by kernel_rfl) ?_
                              refine TS_go 1 ?_
                              have ret := Option.some.inj h
                              subst ret
                              have hy1q := hy1 _ rfl
                              subst hy1q
                              replace h := (elimR hK1)
                              refine TS_retB rfl (by kernel_rfl) ?_
                              refine TS_go 2 ?_
                              have ret := Option.some.inj h
                              subst ret
                              exact TS_ret (by kernel_rfl) (by kernel_rfl) (by kernel_rfl)
                    · refine TS_know 76 (b := false) hb23 (by kernel_rfl) (by kernel_rfl) ?_
                      refine TS_know 77 (b := false) hb23 (by kernel_rfl) (by kernel_rfl) ?_
                      refine TS_go 6 ?_
                      refine TS_F (by kernel_rfl) rfl ?_
                      refine TS_go 5 ?_
                      replace h := condO h
                      rcases h with ⟨hb68, h⟩ | ⟨hb68, h⟩
                      · refine TS_know 119 (b := true) hb68 (by kernel_rfl) (by kernel_rfl) ?_
                        refine TS_know 120 (b := true) hb68 (by kernel_rfl) (by kernel_rfl) ?_
                        refine TS_go 6 ?_
                        replace h := condO h
                        rcases h with ⟨hb69, h⟩ | ⟨hb69, h⟩
                        · refine TS_know 123 (b := true) hb69 (by kernel_rfl) (by kernel_rfl) ?_
                          refine TS_know 124 (b := true) hb69 (by kernel_rfl) (by kernel_rfl) ?_
                          refine TS_know 117 (b := true) hb69 (by kernel_rfl) (by kernel_rfl) ?_
                          refine TS_T (by kernel_rfl) rfl ?_
                          refine TS_draw (by kernel_rfl) ?_
                          refine TD_go 1 ?_
                          replace h := bindO h
                          obtain ⟨l70, hl70, h⟩ := h
                          refine TD_sub (ecI .u8) 1 hl70 (by kernel_rfl) (by kernel_rfl) ?_
                          refine TD_go 1 ?_
                          replace h := bindO h
                          obtain ⟨e71, he71, h⟩ := h
                          refine TD_idx (ecI .u8) he71 (by kernel_rfl) (by kernel_rfl) ?_
                          refine TD_go 3 ?_
                          replace h := bindO h
                          obtain ⟨e72, he72, h⟩ := h
                          refine TD_idx (ecI .u8) he72 (by kernel_rfl) (by kernel_rfl) ?_
                          refine TD_go 3 ?_
                          replace h := bindO h
                          obtain ⟨v73, hv73, h⟩ := h
                          refine TD_call [] (ok_ref29_both l70 (IntKind.wrap .i64 e71) (IntKind.wrap .i64 e72) 0 [0, 0, 0, 0, 0, 0, 0, 0, 0, 0, 0, 0, 0, 0, 0, 0] v73 hv73) (by kernel_rfl) (by kernel_rfl) ?_
                          refine TD_go 6 ?_
                          refine TD_end (by kernel_rfl) ?_
                          refine TS_go 1 ?_
                          exact TS_meet (v73.2, s1.2.2.2, (S_Notice.mk (IntKind.wrap .i64 e8) 0 0 0 v73.1 0)) ⟨[(0, []), (4, []), (5, []), (6, []), (9, []), (10, [])], [(600000, (600000, [])), (6, (6, [])), (9, (9, []))]⟩ h (by kernel_rfl) (by kernel_rfl)
                        · refine TS_know 123 (b := false) hb69 (by kernel_rfl) (by kernel_rfl) ?_
                          refine TS_know 124 (b := false) hb69 (by kernel_rfl) (by kernel_rfl) ?_
                          refine TS_know 117 (b := false) hb69 (by kernel_rfl) (by kernel_rfl) ?_
                          refine TS_F (by kernel_rfl) rfl ?_
                          refine TS_go 5 ?_
                          replace h := condO h
                          rcases h with ⟨hb74, h⟩ | ⟨hb74, h⟩
                          · refine TS_know 143 (b := true) hb74 (by kernel_rfl) (by kernel_rfl) ?_
                            refine TS_know 144 (b := true) hb74 (by kernel_rfl) (by kernel_rfl) ?_
                            refine TS_go 6 ?_
                            replace h := condO h
                            rcases h with ⟨hb75, h⟩ | ⟨hb75, h⟩
                            · refine TS_know 147 (b := true) hb75 (by kernel_rfl) (by kernel_rfl) ?_
                              refine TS_know 148 (b := true) hb75 (by kernel_rfl) (by kernel_rfl) ?_
                              refine TS_know 141 (b := true) hb75 (by kernel_rfl) (by kernel_rfl) ?_
                              refine TS_T (by kernel_rfl) rfl ?_
                              refine TS_go 3 ?_
                              replace h := bindO h
                              obtain ⟨v76, hv76, h⟩ := h
                              refine TS_call [] (ok_ref29_Get l10 2 2 v76 hv76) (by kernel_rfl) (by kernel_rfl) ?_
                              refine TS_go 7 ?_
                              replace h := bindO h
                              obtain ⟨e77, he77, h⟩ := h
                              refine TS_idx (ecI .u8) he77 (by kernel_rfl) (by kernel_rfl) ?_
                              refine TS_go 6 ?_
                              refine TS_draw (by kernel_rfl) ?_
                              refine TD_go 1 ?_
                              replace h := bindO h
                              obtain ⟨l78, hl78, h⟩ := h
                              refine TD_sub (ecI .u8) 1 hl78 (by kernel_rfl) (by kernel_rfl) ?_
                              refine TD_go 1 ?_
                              replace h := bindO h
                              obtain ⟨e79, he79, h⟩ := h
                              refine TD_idx (ecI .u8) he79 (by kernel_rfl) (by kernel_rfl) ?_
                              refine TD_go 3 ?_
                              replace h := bindO h
                              obtain ⟨e80, he80, h⟩ := h
                              refine TD_idx (ecI .u8) he80 (by kernel_rfl) (by kernel_rfl) ?_
                              refine TD_go 3 ?_
                              replace h := bindO h
                              obtain ⟨v81, hv81, h⟩ := h
                              refine TD_call [] (ok_ref29_both l78 (IntKind.wrap .i64 e79) (IntKind.wrap .i64 e80) 0 [0, 0, 0, 0, 0, 0, 0, 0, 0, 0, 0, 0, 0, 0, 0, 0] v81 hv81) (by kernel_rfl) (by kernel_rfl) ?_
                              refine TD_go 6 ?_
                              refine TD_end (by kernel_rfl) ?_
                              refine TS_go 2 ?_
                              replace h := bindO h
                              obtain ⟨v82, hv82, h⟩ := h
                              refine TS_call [] (ok_ref29_Get l10 5 8 v82 hv82) (by kernel_rfl) (by kernel_rfl) ?_
                              refine TS_go 5 ?_
                              exact TS_meet (v81.2, s1.2.2.2, (S_Notice.mk (IntKind.wrap .i64 e8) (IntKind.wrap .u16 v76) 0 0 (S_Destination.mk v81.1.Dst v81.1.Src v82) (IntKind.wrap .i64 e77))) ⟨[(0, []), (4, []), (5, []), (6, []), (9, []), (10, [])], [(600000, (600000, [])), (6, (6, [])), (9, (9, []))]⟩ h (by kernel_rfl) (by kernel_rfl)
                            · refine TS_know 147 (b := false) hb75 (by kernel_rfl) (by kernel_rfl) ?_
                              refine TS_know 148 (b := false) hb75 (by kernel_rfl) (by kernel_rfl) ?_
                              refine TS_know 141 (b := false) hb75 (by kernel_rfl) (by kernel_rfl) ?_
                              refine TS_F (by kernel_rfl) rfl ?_
                              refine TS_go 5 ?_
                              replace h := condO h
                              rcases h with ⟨hb83, h⟩ | ⟨hb83, h⟩
                              · refine TS_know 180 (b := true) hb83 (by kernel_rfl) (by kernel_rfl) ?_
                                refine TS_know 181 (b := true) hb83 (by kernel_rfl) (by kernel_rfl) ?_
                                refine TS_go 6 ?_
                                replace h := condO h
                                rcases h with ⟨hb84, h⟩ | ⟨hb84, h⟩
                                · refine TS_know 184 (b := true) hb84 (by kernel_rfl) (by kernel_rfl) ?_
                                  refine TS_know 185 (b := true) hb84 (by kernel_rfl) (by kernel_rfl) ?_
                                  refine TS_know 178 (b := true) hb84 (by kernel_rfl) (by kernel_rfl) ?_
                                  refine TS_T (by kernel_rfl) rfl ?_
                                  refine TS_go 3 ?_
                                  replace h := bindO h
                                  obtain ⟨v85, hv85, h⟩ := h
                                  refine TS_call [] (ok_ref29_Get l10 0 8 v85 hv85) (by kernel_rfl) (by kernel_rfl) ?_
                                  refine TS_go 4 ?_
                                  refine TS_outJ (by kernel_rfl) ?_
                                  refine TS_go 1 ?_
                                  have ret := Option.some.inj h
                                  subst ret
                                  exact TS_againB _ ⟨[(0, []), (4, []), (5, []), (6, [])], [(600000, (600000, [])), (6, (6, []))]⟩ rfl (by kernel_rfl) (by kernel_rfl)
                                · refine TS_know 184 (b := false) hb84 (by kernel_rfl) (by kernel_rfl) ?_
                                  refine TS_know 185 (b := false) hb84 (by kernel_rfl) (by kernel_rfl) ?_
                                  refine TS_know 178 (b := false) hb84 (by kernel_rfl) (by kernel_rfl) ?_
                                  refine TS_F (by kernel_rfl) rfl ?_
                                  refine TS_go 5 ?_
                                  refine TS_nilT 2 600001 39 40 (by kernel_rfl) ?_
                                  refine TS_fitU ⟨[(2, []), (3, [])], [(600001, (900000, []))]⟩ (by kernel_rfl) ?_
                                  refine TS_go 2 ?_
                                  refine TS_outJ (by kernel_rfl) ?_
                                  refine TS_go 1 ?_
                                  have ret := Option.some.inj h
                                  subst ret
                                  have hy1q := hy1 _ rfl
                                  subst hy1q
                                  replace h := (elimR hK1)
                                  refine TS_retB rfl (by kernel_rfl) ?_
                                  refine TS_go 2 ?_
                                  have ret := Option.some.inj h
                                  subst ret
                                  exact TS_ret (by kernel_rfl) (by kernel_rfl) (by kernel_rfl)
                              · refine TS_know 180 (b := false) hb83 (by kernel_rfl) (by kernel_rfl) ?_
                                refine TS_know 181 (b := false) hb83 (by kernel_rfl) (by kernel_rfl) ?_
                                refine TS_go 6 ?_
                                refine TS_F (by kernel_rfl) rfl ?_
                                refine TS_go 5 ?_
                                refine TS_nilT 2 600001 39 40 (by kernel_rfl) ?_
                                refine TS_fitU ⟨[(2, []), (3, [])], [(600001, (900000, []))]⟩ (by kernel_rfl) ?_
                                refine TS_go 2 ?_
                                refine TS_outJ (by kernel_rfl) ?_
                                refine TS_go 1 ?_
                                have ret := Option.some.inj h
                                subst ret
                                have hy1q := hy1 _ rfl
                                subst hy1q
                                replace h := (elimR hK1)
                                refine TS_retB rfl (by kernel_rfl) ?_
                                refine TS_go 2 ?_
                                have ret := Option.some.inj h
                                subst ret
                                exact TS_ret (by kernel_rfl) (by kernel_rfl) (by kernel_rfl)
                          · refine TS_know 143 (b := false) hb74 (by kernel_rfl) (by kernel_rfl) ?_
                            refine TS_know 144 (b := false) hb74 (by kernel_rfl) (by kernel_rfl) ?_
                            refine TS_go 6 ?_
                            refine TS_F (by kernel_rfl) rfl ?_
                            refine TS_go 5 ?_
                            replace h := condO h
                            rcases h with ⟨hb86, h⟩ | ⟨hb86, h⟩
                            · refine TS_know 180 (b := true) hb86 (by kernel_rfl) (by kernel_rfl) ?_
                              refine TS_know 181 (b := true) hb86 (by kernel_rfl) (by kernel_rfl) ?_
                              refine TS_go 6 ?_
                              replace h := condO h
                              rcases h with ⟨hb87, h⟩ | ⟨hb87, h⟩
                              · refine TS_know 184 (b := true) hb87 (by kernel_rfl) (by kernel_rfl) ?_
                                refine TS_know 185 (b := true) hb87 (by kernel_rfl) (by kernel_rfl) ?_
                                refine TS_know 178 (b := true) hb87 (by kernel_rfl) (by kernel_rfl) ?_
                                refine TS_T (by kernel_rfl) rfl ?_
                                refine TS_go 3 ?_
                                replace h := bindO h
                                obtain ⟨v88, hv88, h⟩ := h
                                refine TS_call [] (ok_ref29_Get l10 0 8 v88 hv88) (by kernel_rfl) (by kernel_rfl) ?_
                                refine TS_go 4 ?_
                                refine TS_outJ (by kernel_rfl) ?_
                                refine TS_go 1 ?_
                                have ret := Option.some.inj h
                                subst ret
                                exact TS_againB _ ⟨[(0, []), (4, []), (5, []), (6, [])], [(600000, (600000, [])), (6, (6, []))]⟩ rfl (by kernel_rfl) (by kernel_rfl)
                              · refine TS_know 184 (b := false) hb87 (by kernel_rfl) (by kernel_rfl) ?_
                                refine TS_know 185 (b := false) hb87 (by kernel_rfl) (by kernel_rfl) ?_
                                refine TS_know 178 (b := false) hb87 (by kernel_rfl) (by kernel_rfl) ?_
                                refine TS_F (by kernel_rfl) rfl ?_
                                refine TS_go 5 ?_
                                refine TS_nilT 2 600001 39 40 (by kernel_rfl) ?_
                                refine TS_fitU ⟨[(2, []), (3, [])], [(600001, (900000, []))]⟩ (by kernel_rfl) ?_
                                refine TS_go 2 ?_
                                refine TS_outJ (by kernel_rfl) ?_
                                refine TS_go 1 ?_
                                have ret := Option.some.inj h
                                subst ret
                                have hy1q := hy1 _ rfl
                                subst hy1q
                                replace h := (elimR hK1)
                                refine TS_retB rfl (by kernel_rfl) ?_
                                refine TS_go 2 ?_
                                have ret := Option.some.inj h
                                subst ret
                                exact TS_ret (by kernel_rfl) (by kernel_rfl) (by kernel_rfl)
                            · refine TS_know 180 (b := false) hb86 (by kernel_rfl) (by kernel_rfl) ?_
                              refine TS_know 181 (b := false) hb86 (by kernel_rfl) (by kernel_rfl) ?_
                              refine TS_go 6 ?_
                              refine TS_F (by kernel_rfl) rfl ?_
                              refine TS_go 5 ?_
                              refine TS_nilT 2 600001 39 40 (by kernel_rfl) ?_
                              refine TS_fitU ⟨[(2, []), (3, [])], [(600001, (900000, []))]⟩ (by kernel_rfl) ?_
                              refine TS_go 2 ?_
                              refine TS_outJ (by kernel_rfl) ?_
                              refine TS_go 1 ?_
                              have ret := Option.some.inj h
                              subst ret
                              have hy1q := hy1 _ rfl
                              subst hy1q
                              replace h := (elimR hK1)
                              refine TS_retB rfl (by kernel_rfl) ?_
                              refine TS_go 2 ?_
                              have ret := Option.some.inj h
                              subst ret
                              exact TS_ret (by kernel_rfl) (by kernel_rfl) (by kernel_rfl)
                      · refine TS_know 119 (b := false) hb68 (by kernel_rfl) (by kernel_rfl) ?_
                        refine TS_know 120 (b := false) hb68 (by kernel_rfl) (by kernel_rfl) ?_
                        refine TS_go 6 ?_
                        refine TS_F (by kernel_rfl) rfl ?_
                        refine TS_go 5 ?_
                        replace h := condO h
                        rcases h with ⟨hb89, h⟩ | ⟨hb89, h⟩
                        · refine TS_know 143 (b := true) hb89 (by kernel_rfl) (by kernel_rfl) ?_
                          refine TS_know 144 (b := true) hb89 (by kernel_rfl) (by kernel_rfl) ?_
                          refine TS_go 6 ?_
                          replace h := condO h
                          rcases h with ⟨hb90, h⟩ | ⟨hb90, h⟩
                          · refine TS_know 147 (b := true) hb90 (by kernel_rfl) (by kernel_rfl) ?_
                            refine TS_know 148 (b := true) hb90 (by kernel_rfl) (by kernel_rfl) ?_
                            refine TS_know 141 (b := true) hb90 (by kernel_rfl) (by kernel_rfl) ?_
                            refine TS_T (by kernel_rfl) rfl ?_
                            refine TS_go 3 ?_
                            replace h := bindO h
                            obtain ⟨v91, hv91, h⟩ := h
                            refine TS_call [] (ok_ref29_Get l10 2 2 v91 hv91) (by kernel_rfl) (by kernel_rfl) ?_
                            refine TS_go 7 ?_
                            replace h := bindO h
                            obtain ⟨e92, he92, h⟩ := h
                            refine TS_idx (ecI .u8) he92 (by kernel_rfl) (by kernel_rfl) ?_
                            refine TS_go 6 ?_
                            refine TS_draw (by kernel_rfl) ?_
                            refine TD_go 1 ?_
                            replace h := bindO h
                            obtain ⟨l93, hl93, h⟩ := h
                            refine TD_sub (ecI .u8) 1 hl93 (by kernel_rfl) (by kernel_rfl) ?_
                            refine TD_go 1 ?_
                            replace h := bindO h
                            obtain ⟨e94, he94, h⟩ := h
                            refine TD_idx (ecI .u8) he94 (by kernel_rfl) (by kernel_rfl) ?_
                            refine TD_go 3 ?_
                            replace h := bindO h
                            obtain ⟨e95, he95, h⟩ := h
                            refine TD_idx (ecI .u8) he95 (by kernel_rfl) (by kernel_rfl) ?_
                            refine TD_go 3 ?_
                            replace h := bindO h
                            obtain ⟨v96, hv96, h⟩ := h
                            refine TD_call [] (ok_ref29_both l93 (IntKind.wrap .i64 e94) (IntKind.wrap .i64 e95) 0 [0, 0, 0, 0, 0, 0, 0, 0, 0, 0, 0, 0, 0, 0, 0, 0] v96 hv96) (by kernel_rfl) (by kernel_rfl) ?_
                            refine TD_go 6 ?_
                            refine TD_end (by kernel_rfl) ?_
                            refine TS_go 2 ?_
                            replace h := bindO h
                            obtain ⟨v97, hv97, h⟩ := h
                            refine TS_call [] (ok_ref29_Get l10 5 8 v97 hv97) (by kernel_rfl) (by kernel_rfl) ?_
                            refine TS_go 5 ?_
                            exact TS_meet (v96.2, s1.2.2.2, (S_Notice.mk (IntKind.wrap .i64 e8) (IntKind.wrap .u16 v91) 0 0 (S_Destination.mk v96.1.Dst v96.1.Src v97) (IntKind.wrap .i64 e92))) ⟨[(0, []), (4, []), (5, []), (6, []), (9, []), (10, [])], [(600000, (600000, [])), (6, (6, [])), (9, (9, []))]⟩ h (by kernel_rfl) (by kernel_rfl)
                          · refine TS_know 147 (b := false) hb90 (by kernel_rfl) (by kernel_rfl) ?_
                            refine TS_know 148 (b := false) hb90 (by kernel_rfl) (by kernel_rfl) ?_
                            refine TS_know 141 (b := false) hb90 (by kernel_rfl) (by kernel_rfl) ?_
                            refine TS_F (by kernel_rfl) rfl ?_
                            refine TS_go 5 ?_
                            replace h := condO h
                            rcases h with ⟨hb98, h⟩ | ⟨hb98, h⟩
                            · refine TS_know 180 (b := true) hb98 (by kernel_rfl) (by kernel_rfl) ?_
                              refine TS_know 181 (b := true) hb98 (by kernel_rfl) (by kernel_rfl) ?_
                              refine TS_go 6 ?_
                              replace h := condO h
                              rcases h with ⟨hb99, h⟩ | ⟨hb99, h⟩
                              · refine TS_know 184 (b := true) hb99 (by kernel_rfl) (by kernel_rfl) ?_
                                refine TS_know 185 (b := true) hb99 (by kernel_rfl) (by kernel_rfl) ?_
                                refine TS_know 178 (b := true) hb99 (by kernel_rfl) (by kernel_rfl) ?_
                                refine TS_T (by kernel_rfl) rfl ?_
                                refine TS_go 3 ?_
                                replace h := bindO h
                                obtain ⟨v100, hv100, h⟩ := h
                                refine TS_call [] (ok_ref29_Get l10 0 8 v100 hv100) (by kernel_rfl) (by kernel_rfl) ?_
                                refine TS_go 4 ?_
                                refine TS_outJ (by kernel_rfl) ?_
                                refine TS_go 1 ?_
                                have ret := Option.some.inj h
                                subst ret
                                exact TS_againB _ ⟨[(0, []), (4, []), (5, []), (6, [])], [(600000, (600000, [])), (6, (6, []))]⟩ rfl (by kernel_rfl) (by kernel_rfl)
                              · refine TS_know 184 (b := false) hb99 (by kernel_rfl) (by kernel_rfl) ?_
                                refine TS_know 185 (b := false) hb99 (by kernel_rfl) (by kernel_rfl) ?_
                                refine TS_know 178 (b := false) hb99 (by kernel_rfl) (by kernel_rfl) ?_
                                refine TS_F (by kernel_rfl) rfl ?_
                                refine TS_go 5 ?_
                                refine TS_nilT 2 600001 39 40 (by kernel_rfl) ?_
                                refine TS_fitU ⟨[(2, []), (3, [])], [(600001, (900000, []))]⟩ (by kernel_rfl) ?_
                                refine TS_go 2 ?_
                                refine TS_outJ (by kernel_rfl) ?_
                                refine TS_go 1 ?_
                                have ret := Option.some.inj h
                                subst ret
                                have hy1q := hy1 _ rfl
                                subst hy1q
                                replace h := (elimR hK1)
                                refine TS_retB rfl (by kernel_rfl) ?_
                                refine TS_go 2 ?_
                                have ret := Option.some.inj h
                                subst ret
                                exact TS_ret (by kernel_rfl) (by kernel_rfl) (by kernel_rfl)
                            · refine TS_know 180 (b := false) hb98 (by kernel_rfl) (by kernel_rfl) ?_
                              refine TS_know 181 (b := false) hb98 (by kernel_rfl) (by kernel_rfl) ?_
                              refine TS_go 6 ?_
                              refine TS_F (by kernel_rfl) rfl ?_
                              refine TS_go 5 ?_
                              refine TS_nilT 2 600001 39 40 (by kernel_rfl) ?_
                              refine TS_fitU ⟨[(2, []), (3, [])], [(600001, (900000, []))]⟩ (by kernel_rfl) ?_
                              refine TS_go 2 ?_
                              refine TS_outJ (by kernel_rfl) ?_
                              refine TS_go 1 ?_
                              have ret := Option.some.inj h
                              subst ret
                              have hy1q := hy1 _ rfl
                              subst hy1q
                              replace h := (elimR hK1)
                              refine TS_retB rfl (by kernel_rfl) ?_
                              refine TS_go 2 ?_
                              have ret := Option.some.inj h
                              subst ret
                              exact TS_ret (by kernel_rfl) (by kernel_rfl) (by kernel_rfl)
                        · refine TS_know 143 (b := false) hb89 (by kernel_rfl) (by kernel_rfl) ?_
                          refine TS_know 144 (b := false) hb89 (by kernel_rfl) (by kernel_rfl) ?_
                          refine TS_go 6 ?_
                          refine TS_F (by kernel_rfl) rfl ?_
                          refine TS_go 5 ?_
                          replace h := condO h
                          rcases h with ⟨hb101, h⟩ | ⟨hb101, h⟩
                          · refine TS_know 180 (b := true) hb101 (by kernel_rfl) (by kernel_rfl) ?_
                            refine TS_know 181 (b := true) hb101 (by kernel_rfl) (by kernel_rfl) ?_
                            refine TS_go 6 ?_
                            replace h := condO h
                            rcases h with ⟨hb102, h⟩ | ⟨hb102, h⟩
                            · refine TS_know 184 (b := true) hb102 (by kernel_rfl) (by kernel_rfl) ?_
                              refine TS_know 185 (b := true) hb102 (by kernel_rfl) (by kernel_rfl) ?_
                              refine TS_know 178 (b := true) hb102 (by kernel_rfl) (by kernel_rfl) ?_
                              refine TS_T (by kernel_rfl) rfl ?_
                              refine TS_go 3 ?_
                              replace h := bindO h
                              obtain ⟨v103, hv103, h⟩ := h
                              refine TS_call [] (ok_ref29_Get l10 0 8 v103 hv103) (by kernel_rfl) (by kernel_rfl) ?_
                              refine TS_go 4 ?_
                              refine TS_outJ (by kernel_rfl) ?_
                              refine TS_go 1 ?_
                              have ret := Option.some.inj h
                              subst ret
                              exact TS_againB _ ⟨[(0, []), (4, []), (5, []), (6, [])], [(600000, (600000, [])), (6, (6, []))]⟩ rfl (by kernel_rfl) (by kernel_rfl)
                            · refine TS_know 184 (b := false) hb102 (by kernel_rfl) (by kernel_rfl) ?_
                              refine TS_know 185 (b := false) hb102 (by kernel_rfl) (by kernel_rfl) ?_
                              refine TS_know 178 (b := false) hb102 (by kernel_rfl) (by kernel_rfl) ?_
                              refine TS_F (by kernel_rfl) rfl ?_
                              refine TS_go 5 ?_
                              refine TS_nilT 2 600001 39 40 (by kernel_rfl) ?_
                              refine TS_fitU ⟨[(2, []), (3, [])], [(600001, (900000, []))]⟩ (by kernel_rfl) ?_
                              refine TS_go 2 ?_
                              refine TS_outJ (by kernel_rfl) ?_
                              refine TS_go 1 ?_
                              have ret := Option.some.inj h
                              subst ret
                              have hy1q := hy1 _ rfl
                              subst hy1q
                              replace h := (elimR hK1)
                              refine TS_retB rfl (by kernel_rfl) ?_
                              refine TS_go 2 ?_
                              have ret := Option.some.inj h
                              subst ret
                              exact TS_ret (by kernel_rfl) (by kernel_rfl) (by kernel_rfl)
                          · refine TS_know 180 (b := false) hb101 (by kernel_rfl) (by kernel_rfl) ?_
                            refine TS_know 181 (b := false) hb101 (by kernel_rfl) (by kernel_rfl) ?_
                            refine TS_go 6 ?_
                            refine TS_F (by kernel_rfl) rfl ?_
                            refine TS_go 5 ?_
                            refine TS_nilT 2 600001 39 40 (by kernel_rfl) ?_
                            refine TS_fitU ⟨[(2, []), (3, [])], [(600001, (900000, []))]⟩ (by kernel_rfl) ?_
                            refine TS_go 2 ?_
                            refine TS_outJ (by kernel_rfl) ?_
                            refine TS_go 1 ?_
                            have ret := Option.some.inj h
                            subst ret
                            have hy1q := hy1 _ rfl
                            subst hy1q
                            replace h := (elimR hK1)
                            refine TS_retB rfl (by kernel_rfl) ?_
                            refine TS_go 2 ?_
                            have ret := Option.some.inj h
                            subst ret
                            exact TS_ret (by kernel_rfl) (by kernel_rfl) (by kernel_rfl)
                · refine TS_know 61 (b := false) hb19 (by kernel_rfl) (by kernel_rfl) ?_
                  refine TS_know 62 (b := false) hb19 (by kernel_rfl) (by kernel_rfl) ?_
                  refine TS_go 6 ?_
                  refine TS_F (by kernel_rfl) rfl ?_
                  refine TS_go 5 ?_
                  replace h := condO h
                  rcases h with ⟨hb104, h⟩ | ⟨hb104, h⟩
                  · refine TS_know 76 (b := true) hb104 (by kernel_rfl) (by kernel_rfl) ?_
                    refine TS_know 77 (b := true) hb104 (by kernel_rfl) (by kernel_rfl) ?_
                    refine TS_go 6 ?_
                    replace h := condO h
                    rcases h with ⟨hb105, h⟩ | ⟨hb105, h⟩
                    · refine TS_know 80 (b := true) hb105 (by kernel_rfl) (by kernel_rfl) ?_
                      refine TS_know 81 (b := true) hb105 (by kernel_rfl) (by kernel_rfl) ?_
                      refine TS_know 74 (b := true) hb105 (by kernel_rfl) (by kernel_rfl) ?_
                      refine TS_T (by kernel_rfl) rfl ?_
                      refine TS_go 3 ?_
                      replace h := bindO h
                      obtain ⟨v106, hv106, h⟩ := h
                      refine TS_call [] (ok_ref29_Get l10 3 2 v106 hv106) (by kernel_rfl) (by kernel_rfl) ?_
                      refine TS_go 7 ?_
                      replace h := bindO h
                      obtain ⟨v107, hv107, h⟩ := h
                      refine TS_call [] (ok_ref29_Get l10 5 2 v107 hv107) (by kernel_rfl) (by kernel_rfl) ?_
                      refine TS_go 5 ?_
                      refine TS_draw (by kernel_rfl) ?_
                      refine TD_go 1 ?_
                      replace h := bindO h
                      obtain ⟨l108, hl108, h⟩ := h
                      refine TD_sub (ecI .u8) 1 hl108 (by kernel_rfl) (by kernel_rfl) ?_
                      refine TD_go 1 ?_
                      replace h := bindO h
                      obtain ⟨e109, he109, h⟩ := h
                      refine TD_idx (ecI .u8) he109 (by kernel_rfl) (by kernel_rfl) ?_
                      refine TD_go 3 ?_
                      replace h := bindO h
                      obtain ⟨e110, he110, h⟩ := h
                      refine TD_idx (ecI .u8) he110 (by kernel_rfl) (by kernel_rfl) ?_
                      refine TD_go 3 ?_
                      replace h := bindO h
                      obtain ⟨e111, he111, h⟩ := h
                      refine TD_idx (ecI .u8) he111 (by kernel_rfl) (by kernel_rfl) ?_
                      refine TD_go 3 ?_
                      replace h := bindO h
                      obtain ⟨v112, hv112, h⟩ := h
                      refine TD_call [] (ok_ref29_both l108 (IntKind.wrap .i64 e109) (IntKind.wrap .i64 e110) (IntKind.wrap .i64 e111) s1.2.2.2 v112 hv112) (by kernel_rfl) (by kernel_rfl) ?_
                      refine TD_go 6 ?_
                      refine TD_end (by kernel_rfl) ?_
                      refine TS_go 15 ?_
                      exact TS_meet (v112.2, v112.1.Dst.IP, (S_Notice.mk (IntKind.wrap .i64 e8) (IntKind.wrap .u16 v106) (IntKind.wrap .i64 v107) 0 (S_Destination.mk v112.1.Dst v112.1.Src s1.2.2.1) 0)) ⟨[(0, []), (4, []), (5, []), (6, []), (9, []), (10, [])], [(600000, (600000, [])), (6, (6, [])), (9, (9, []))]⟩ h (by kernel_rfl) (by kernel_rfl)
                    · refine TS_know 80 (b := false) hb105 (by kernel_rfl) (by kernel_rfl) ?_
                      refine TS_know 81 (b := false) hb105 (by kernel_rfl) (by kernel_rfl) ?_
                      refine TS_know 74 (b := false) hb105 (by kernel_rfl) (by kernel_rfl) ?_
                      refine TS_F (by kernel_rfl) rfl ?_
                      refine TS_go 5 ?_
                      replace h := condO h
                      rcases h with ⟨hb113, h⟩ | ⟨hb113, h⟩
                      · refine TS_know 119 (b := true) hb113 (by kernel_rfl) (by kernel_rfl) ?_
                        refine TS_know 120 (b := true) hb113 (by kernel_rfl) (by kernel_rfl) ?_
                        refine TS_go 6 ?_
                        replace h := condO h
                        rcases h with ⟨hb114, h⟩ | ⟨hb114, h⟩
                        · refine TS_know 123 (b := true) hb114 (by kernel_rfl) (by kernel_rfl) ?_
                          refine TS_know 124 (b := true) hb114 (by kernel_rfl) (by kernel_rfl) ?_
                          refine TS_know 117 (b := true) hb114 (by kernel_rfl) (by kernel_rfl) ?_
                          refine TS_T (by kernel_rfl) rfl ?_
                          refine TS_draw (by kernel_rfl) ?_
                          refine TD_go 1 ?_
                          replace h := bindO h
                          obtain ⟨l115, hl115, h⟩ := h
                          refine TD_sub (ecI .u8) 1 hl115 (by kernel_rfl) (by kernel_rfl) ?_
                          refine TD_go 1 ?_
                          replace h := bindO h
                          obtain ⟨e116, he116, h⟩ := h
                          refine TD_idx (ecI .u8) he116 (by kernel_rfl) (by kernel_rfl) ?_
                          refine TD_go 3 ?_
                          replace h := bindO h
                          obtain ⟨e117, he117, h⟩ := h
                          refine TD_idx (ecI .u8) he117 (by kernel_rfl) (by kernel_rfl) ?_
                          refine TD_go 3 ?_
                          replace h := bindO h
                          obtain ⟨v118, hv118, h⟩ := h
                          refine TD_call [] (ok_ref29_both l115 (IntKind.wrap .i64 e116) (IntKind.wrap .i64 e117) 0 [0, 0, 0, 0, 0, 0, 0, 0, 0, 0, 0, 0, 0, 0, 0, 0] v118 hv118) (by kernel_rfl) (by kernel_rfl) ?_
                          refine TD_go 6 ?_
                          refine TD_end (by kernel_rfl) ?_
                          refine TS_go 1 ?_
                          exact TS_meet (v118.2, s1.2.2.2, (S_Notice.mk (IntKind.wrap .i64 e8) 0 0 0 v118.1 0)) ⟨[(0, []), (4, []), (5, []), (6, []), (9, []), (10, [])], [(600000, (600000, [])), (6, (6, [])), (9, (9, []))]⟩ h (by kernel_rfl) (by kernel_rfl)
                        · refine TS_know 123 (b := false) hb114 (by kernel_rfl) (by kernel_rfl) ?_
                          refine TS_know 124 (b := false) hb114 (by kernel_rfl) (by kernel_rfl) ?_
                          refine TS_know 117 (b := false) hb114 (by kernel_rfl) (by kernel_rfl) ?_
                          refine TS_F (by kernel_rfl) rfl ?_
                          refine TS_go 5 ?_
                          replace h := condO h
                          rcases h with ⟨hb119, h⟩ | ⟨hb119, h⟩
                          · refine TS_know 143 (b := true) hb119 (by kernel_rfl) (by kernel_rfl) ?_
                            refine TS_know 144 (b := true) hb119 (by kernel_rfl) (by kernel_rfl) ?_
                            refine TS_go 6 ?_
                            replace h := condO h
                            rcases h with ⟨hb120, h⟩ | ⟨hb120, h⟩
                            · refine TS_know 147 (b := true) hb120 (by kernel_rfl) (by kernel_rfl) ?_
                              refine TS_know 148 (b := true) hb120 (by kernel_rfl) (by kernel_rfl) ?_
                              refine TS_know 141 (b := true) hb120 (by kernel_rfl) (by kernel_rfl) ?_
                              refine TS_T (by kernel_rfl) rfl ?_
                              refine TS_go 3 ?_
                              replace h := bindO h
                              obtain ⟨v121, hv121, h⟩ := h
                              refine TS_call [] (ok_ref29_Get l10 2 2 v121 hv121) (by kernel_rfl) (by kernel_rfl) ?_
                              refine TS_go 7 ?_
                              replace h := bindO h
                              obtain ⟨e122, he122, h⟩ := h
                              refine TS_idx (ecI .u8) he122 (by kernel_rfl) (by kernel_rfl) ?_
                              refine TS_go 6 ?_
                              refine TS_draw (by kernel_rfl) ?_
                              refine TD_go 1 ?_
                              replace h := bindO h
                              obtain ⟨l123, hl123, h⟩ := h
                              refine TD_sub (ecI .u8) 1 hl123 (by kernel_rfl) (by kernel_rfl) ?_
                              refine TD_go 1 ?_
                              replace h := bindO h
                              obtain ⟨e124, he124, h⟩ := h
                              refine TD_idx (ecI .u8) he124 (by kernel_rfl) (by kernel_rfl) ?_
                              refine TD_go 3 ?_
                              replace h := bindO h
                              obtain ⟨e125, he125, h⟩ := h
                              refine TD_idx (ecI .u8) he125 (by kernel_rfl) (by kernel_rfl) ?_
                              refine TD_go 3 ?_
                              replace h := bindO h
                              obtain ⟨v126, hv126, h⟩ := h
                              refine TD_call [] (ok_ref29_both l123 (IntKind.wrap .i64 e124) (IntKind.wrap .i64 e125) 0 [0, 0, 0, 0, 0, 0, 0, 0, 0, 0, 0, 0, 0, 0, 0, 0] v126 hv126) (by kernel_rfl) (by kernel_rfl) ?_
                              refine TD_go 6 ?_
                              refine TD_end (by kernel_rfl) ?_
                              refine TS_go 2 ?_
                              replace h := bindO h
                              obtain ⟨v127, hv127, h⟩ := h
                              refine TS_call [] (ok_ref29_Get l10 5 8 v127 hv127) (by kernel_rfl) (by kernel_rfl) ?_
                              refine TS_go 5 ?_
                              exact TS_meet (v126.2, s1.2.2.2, (S_Notice.mk (IntKind.wrap .i64 e8) (IntKind.wrap .u16 v121) 0 0 (S_Destination.mk v126.1.Dst v126.1.Src v127) (IntKind.wrap .i64 e122))) ⟨[(0, []), (4, []), (5, []), (6, []), (9, []), (10, [])], [(600000, (600000, [])), (6, (6, [])), (9, (9, []))]⟩ h (by kernel_rfl) (by kernel_rfl)
                            · refine TS_know 147 (b := false) hb120 (by kernel_rfl) (by kernel_rfl) ?_
                              refine TS_know 148 (b := false) hb120 (by kernel_rfl) (by kernel_rfl) ?_
                              refine TS_know 141 (b := false) hb120 (by kernel_rfl) (by kernel_rfl) ?_
                              refine TS_F (by kernel_rfl) rfl ?_
                              refine TS_go 5 ?_
                              replace h := condO h
                              rcases h with ⟨hb128, h⟩ | ⟨hb128, h⟩
                              · refine TS_know 180 (b := true) hb128 (by kernel_rfl) (by kernel_rfl) ?_
                                refine TS_know 181 (b := true) hb128 (by kernel_rfl) (by kernel_rfl) ?_
                                refine TS_go 6 ?_
                                replace h := condO h
                                rcases h with ⟨hb129, h⟩ | ⟨hb129, h⟩
                                · refine TS_know 184 (b := true) hb129 (by kernel_rfl) (by kernel_rfl) ?_
                                  refine TS_know 185 (b := true) hb129 (by kernel_rfl) (by kernel_rfl) ?_
                                  refine TS_know 178 (b := true) hb129 (by kernel_rfl) (by kernel_rfl) ?_
                                  refine TS_T (by kernel_rfl) rfl ?_
                                  refine TS_go 3 ?_
                                  replace h := bindO h
                                  obtain ⟨v130, hv130, h⟩ := h
                                  refine TS_call [] (ok_ref29_Get l10 0 8 v130 hv130) (by kernel_rfl) (by kernel_rfl) ?_
                                  refine TS_go 4 ?_
                                  refine TS_outJ (by kernel_rfl) ?_
                                  refine TS_go 1 ?_
                                  have ret := Option.some.inj h
                                  subst ret
                                  exact TS_againB _ ⟨[(0, []), (4, []), (5, []), (6, [])], [(600000, (600000, [])), (6, (6, []))]⟩ rfl (by kernel_rfl) (by kernel_rfl)
                                · refine TS_know 184 (b := false) hb129 (by kernel_rfl) (by kernel_rfl) ?_
                                  refine TS_know 185 (b := false) hb129 (by kernel_rfl) (by kernel_rfl) ?_
                                  refine TS_know 178 (b := false) hb129 (by kernel_rfl) (by kernel_rfl) ?_
                                  refine TS_F (by kernel_rfl) rfl ?_
                                  refine TS_go 5 ?_
                                  refine TS_nilT 2 600001 39 40 (by kernel_rfl) ?_
                                  refine TS_fitU ⟨[(2, []), (3, [])], [(600001, (900000, []))]⟩ (by kernel_rfl) ?_
                                  refine TS_go 2 ?_
                                  refine TS_outJ (by kernel_rfl) ?_
                                  refine TS_go 1 ?_
                                  have ret := Option.some.inj h
                                  subst ret
                                  have hy1q := hy1 _ rfl
                                  subst hy1q
                                  replace h := (elimR hK1)
                                  refine TS_retB rfl (by kernel_rfl) ?_
                                  refine TS_go 2 ?_
                                  have ret := Option.some.inj h
                                  subst ret
                                  exact TS_ret (by kernel_rfl) (by kernel_rfl) (by kernel_rfl)
                              · refine TS_know 180 (b := false) hb128 (by kernel_rfl) (by kernel_rfl) ?_
                                refine TS_know 181 (b := false) hb128 (by kernel_rfl) (by kernel_rfl) ?_
                                refine TS_go 6 ?_
                                refine TS_F (by kernel_rfl) rfl ?_
                                refine TS_go 5 ?_
                                refine TS_nilT 2 600001 39 40 (by kernel_rfl) ?_
                                refine TS_fitU ⟨[(2, []), (3, [])], [(600001, (900000, []))]⟩ (by kernel_rfl) ?_
                                refine TS_go 2 ?_
                                refine TS_outJ (by kernel_rfl) ?_
                                refine TS_go 1 ?_
                                have ret := Option.some.inj h
                                subst ret
                                have hy1q := hy1 _ rfl
                                subst hy1q
                                replace h := (elimR hK1)
                                refine TS_retB rfl (by kernel_rfl) ?_
                                refine TS_go 2 ?_
                                have ret := Option.some.inj h
                                subst ret
                                exact TS_ret (by kernel_rfl) (by kernel_rfl) (by kernel_rfl)
                          · refine TS_know 143 (b := false) hb119 (by kernel_rfl) (by kernel_rfl) ?_
                            refine TS_know 144 (b := false) hb119 (by kernel_rfl) (by kernel_rfl) ?_
                            refine TS_go 6 ?_
                            refine TS_F (by kernel_rfl) rfl ?_
                            refine TS_go 5 ?_
                            replace h := condO h
                            rcases h with ⟨hb131, h⟩ | ⟨hb131, h⟩
                            · refine TS_know 180 (b := true) hb131 (by kernel_rfl) (by kernel_rfl) ?_
                              refine TS_know 181 (b := true) hb131 (by kernel_rfl) (by kernel_rfl) ?_
                              refine TS_go 6 ?_
                              replace h := condO h
                              rcases h with ⟨hb132, h⟩ | ⟨hb132, h⟩
                              · refine TS_know 184 (b := true) hb132 (by kernel_rfl) (by kernel_rfl) ?_
                                refine TS_know 185 (b := true) hb132 (by kernel_rfl) (by kernel_rfl) ?_
                                refine TS_know 178 (b := true) hb132 (by kernel_rfl) (by kernel_rfl) ?_
                                refine TS_T (by kernel_rfl) rfl ?_
                                refine TS_go 3 ?_
                                replace h := bindO h
                                obtain ⟨v133, hv133, h⟩ := h
                                refine TS_call [] (ok_ref29_Get l10 0 8 v133 hv133) (by kernel_rfl) (by kernel_rfl) ?_
                                refine TS_go 4 ?_
                                refine TS_outJ (by kernel_rfl) ?_
                                refine TS_go 1 ?_
                                have ret := Option.some.inj h
                                subst ret
                                exact TS_againB _ ⟨[(0, []), (4, []), (5, []), (6, [])], [(600000, (600000, [])), (6, (6, []))]⟩ rfl (by kernel_rfl) (by kernel_rfl)
                              · refine TS_know 184 (b := false) hb132 (by kernel_rfl) (by kernel_rfl) ?_
                                refine TS_know 185 (b := false) hb132 (by kernel_rfl) (by kernel_rfl) ?_
                                refine TS_know 178 (b := false) hb132 (by kernel_rfl) (by kernel_rfl) ?_
                                refine TS_F (by kernel_rfl) rfl ?_
                                refine TS_go 5 ?_
                                refine TS_nilT 2 600001 39 40 (by kernel_rfl) ?_
                                refine TS_fitU ⟨[(2, []), (3, [])], [(600001, (900000, []))]⟩ (by kernel_rfl) ?_
                                refine TS_go 2 ?_
                                refine TS_outJ (by kernel_rfl) ?_
                                refine TS_go 1 ?_
                                have ret := Option.some.inj h
                                subst ret
                                have hy1q := hy1 _ rfl
                                subst hy1q
                                replace h := (elimR hK1)
                                refine TS_retB rfl (by kernel_rfl) ?_
                                refine TS_go 2 ?_
                                have ret := Option.some.inj h
                                subst ret
                                exact TS_ret (by kernel_rfl) (by kernel_rfl) (by kernel_rfl)
                            · refine TS_know 180 (b := false) hb131 (by kernel_rfl) (by kernel_rfl) ?_
                              refine TS_know 181 (b := false) hb131 (by kernel_rfl) (by kernel_rfl) ?_
                              refine TS_go 6 ?_
                              refine TS_F (by kernel_rfl) rfl ?_
                              refine TS_go 5 ?_
                              refine TS_nilT 2 600001 39 40 (by kernel_rfl) ?_
                              refine TS_fitU ⟨[(2, []), (3, [])], [(600001, (900000, []))]⟩ (by kernel_rfl) ?_
                              refine TS_go 2 ?_
                              refine TS_outJ (by kernel_rfl) ?_
                              refine TS_go 1 ?_
                              have ret := Option.some.inj h
                              subst ret
                              have hy1q := hy1 _ rfl
                              subst hy1q
                              replace h := (elimR hK1)
                              refine TS_retB rfl (by kernel_rfl) ?_
                              refine TS_go 2 ?_
                              have ret := Option.some.inj h
                              subst ret
                              exact TS_ret (by kernel_rfl) (by kernel_rfl) (by kernel_rfl)
                      · refine TS_know 119 (b := false) hb113 (by kernel_rfl) (by kernel_rfl) ?_
                        refine TS_know 120 (b := false) hb113 (by kernel_rfl) (by kernel_rfl) ?_
                        refine TS_go 6 ?_
                        refine TS_F (by kernel_rfl) rfl ?_
                        refine TS_go 5 ?_
                        replace h := condO h
                        rcases h with ⟨hb134, h⟩ | ⟨hb134, h⟩
                        · refine TS_know 143 (b := true) hb134 (by kernel_rfl) (by kernel_rfl) ?_
                          refine TS_know 144 (b := true) hb134 (by kernel_rfl) (by kernel_rfl) ?_
                          refine TS_go 6 ?_
                          replace h := condO h
                          rcases h with ⟨hb135, h⟩ | ⟨hb135, h⟩
                          · refine TS_know 147 (b := true) hb135 (by kernel_rfl) (by kernel_rfl) ?_
                            refine TS_know 148 (b := true) hb135 (by kernel_rfl) (by kernel_rfl) ?_
                            refine TS_know 141 (b := true) hb135 (by kernel_rfl) (by kernel_rfl) ?_
                            refine TS_T (by kernel_rfl) rfl ?_
                            refine TS_go 3 ?_
                            replace h := bindO h
                            obtain ⟨v136, hv136, h⟩ := h
                            refine TS_call [] (ok_ref29_Get l10 2 2 v136 hv136) (by kernel_rfl) (by kernel_rfl) ?_
                            refine TS_go 7 ?_
                            replace h := bindO h
                            obtain ⟨e137, he137, h⟩ := h
                            refine TS_idx (ecI .u8) he137 (by kernel_rfl) (by kernel_rfl) ?_
                            refine TS_go 6 ?_
                            refine TS_draw (by kernel_rfl) ?_
                            refine TD_go 1 ?_
                            replace h := bindO h
                            obtain ⟨l138, hl138, h⟩ := h
                            refine TD_sub (ecI .u8) 1 hl138 (by kernel_rfl) (by kernel_rfl) ?_
                            refine TD_go 1 ?_
                            replace h := bindO h
                            obtain ⟨e139, he139, h⟩ := h
                            refine TD_idx (ecI .u8) he139 (by kernel_rfl) (by kernel_rfl) ?_
                            refine TD_go 3 ?_
                            replace h := bindO h
                            obtain ⟨e140, he140, h⟩ := h
                            refine TD_idx (ecI .u8) he140 (by kernel_rfl) (by kernel_rfl) ?_
                            refine TD_go 3 ?_
                            replace h := bindO h
                            obtain ⟨v141, hv141, h⟩ := h
                            refine TD_call [] (ok_ref29_both l138 (IntKind.wrap .i64 e139) (IntKind.wrap .i64 e140) 0 [0, 0, 0, 0, 0, 0, 0, 0, 0, 0, 0, 0, 0, 0, 0, 0] v141 hv141) (by kernel_rfl) (by kernel_rfl) ?_
                            refine TD_go 6 ?_
                            refine TD_end (by kernel_rfl) ?_
                            refine TS_go 2 ?_
                            replace h := bindO h
                            obtain ⟨v142, hv142, h⟩ := h
                            refine TS_call [] (ok_ref29_Get l10 5 8 v142 hv142) (by kernel_rfl) (by kernel_rfl) ?_
                            refine TS_go 5 ?_
                            exact TS_meet (v141.2, s1.2.2.2, (S_Notice.mk (IntKind.wrap .i64 e8) (IntKind.wrap .u16 v136) 0 0 (S_Destination.mk v141.1.Dst v141.1.Src v142) (IntKind.wrap .i64 e137))) ⟨[(0, []), (4, []), (5, []), (6, []), (9, []), (10, [])], [(600000, (600000, [])), (6, (6, [])), (9, (9, []))]⟩ h (by kernel_rfl) (by kernel_rfl)
                          · refine TS_know 147 (b := false) hb135 (by kernel_rfl) (by kernel_rfl) ?_
                            refine TS_know 148 (b := false) hb135 (by kernel_rfl) (by kernel_rfl) ?_
                            refine TS_know 141 (b := false) hb135 (by kernel_rfl) (by kernel_rfl) ?_
                            refine TS_F (by kernel_rfl) rfl ?_
                            refine TS_go 5 ?_
                            replace h := condO h
                            rcases h with ⟨hb143, h⟩ | ⟨hb143, h⟩
                            · refine TS_know 180 (b := true) hb143 (by kernel_rfl) (by kernel_rfl) ?_
                              refine TS_know 181 (b := true) hb143 (by kernel_rfl) (by kernel_rfl) ?_
                              refine TS_go 6 ?_
                              replace h := condO h
                              rcases h with ⟨hb144, h⟩ | ⟨hb144, h⟩
                              · refine TS_know 184 (b := true) hb144 (by kernel_rfl) (by kernel_rfl) ?_
                                refine TS_know 185 (b := true) hb144 (by kernel_rfl) (by kernel_rfl) ?_
                                refine TS_know 178 (b := true) hb144 (by kernel_rfl) (by kernel_rfl) ?_
                                refine TS_T (by kernel_rfl) rfl ?_
                                refine TS_go 3 ?_
                                replace h := bindO h
                                obtain ⟨v145, hv145, h⟩ := h
                                refine TS_call [] (ok_ref29_Get l10 0 8 v145 hv145) (by kernel_rfl) (by kernel_rfl) ?_
                                refine TS_go 4 ?_
                                refine TS_outJ (by kernel_rfl) ?_
                                refine TS_go 1 ?_
                                have ret := Option.some.inj h
                                subst ret
                                exact TS_againB _ ⟨[(0, []), (4, []), (5, []), (6, [])], [(600000, (600000, [])), (6, (6, []))]⟩ rfl (by kernel_rfl) (by kernel_rfl)
                              · refine TS_know 184 (b := false) hb144 (by kernel_rfl) (by kernel_rfl) ?_
                                refine TS_know 185 (b := false) hb144 (by kernel_rfl) (by kernel_rfl) ?_
                                refine TS_know 178 (b := false) hb144 (by kernel_rfl) (by kernel_rfl) ?_
                                refine TS_F (by kernel_rfl) rfl ?_
                                refine TS_go 5 ?_
                                refine TS_nilT 2 600001 39 40 (by kernel_rfl) ?_
                                refine TS_fitU ⟨[(2, []), (3, [])], [(600001, (900000, []))]⟩ (by kernel_rfl) ?_
                                refine TS_go 2 ?_
                                refine TS_outJ (by kernel_rfl) ?_
                                refine TS_go 1 ?_
                                have ret := Option.some.inj h
                                subst ret
                                have hy1q := hy1 _ rfl
                                subst hy1q
                                replace h := (elimR hK1)
                                refine TS_retB rfl (by kernel_rfl) ?_
                                refine TS_go 2 ?_
                                have ret := Option.some.inj h
                                subst ret
                                exact TS_ret (by kernel_rfl) (by kernel_rfl) (by kernel_rfl)
                            · refine TS_know 180 (b := false) hb143 (by kernel_rfl) (by kernel_rfl) ?_
                              refine TS_know 181 (b := false) hb143 (by kernel_rfl) (by kernel_rfl) ?_
                              refine TS_go 6 ?_
                              refine TS_F (by kernel_rfl) rfl ?_
                              refine TS_go 5 ?_
                              refine TS_nilT 2 600001 39 40 (by kernel_rfl) ?_
                              refine TS_fitU ⟨[(2, []), (3, [])], [(600001, (900000, []))]⟩ (by kernel_rfl) ?_
                              refine TS_go 2 ?_
                              refine TS_outJ (by kernel_rfl) ?_
                              refine TS_go 1 ?_
                              have ret := Option.some.inj h
                              subst ret
                              have hy1q := hy1 _ rfl
                              subst hy1q
                              replace h := (elimR hK1)
                              refine TS_retB rfl (by kernel_rfl) ?_
                              refine TS_go 2 ?_
                              have ret := Option.some.inj h
                              subst ret
                              exact TS_ret (by kernel_rfl) (by kernel_rfl) (by kernel_rfl)
                        · refine TS_know 143 (b := false) hb134 (by kernel_rfl) (by kernel_rfl) ?_
                          refine TS_know 144 (b := false) hb134 (by kernel_rfl) (by kernel_rfl) ?_
                          refine TS_go 6 ?_
                          refine TS_F (by kernel_rfl) rfl ?_
                          refine TS_go 5 ?_
                          replace h := condO h
                          rcases h with ⟨hb146, h⟩ | ⟨hb146, h⟩
                          · refine TS_know 180 (b := true) hb146 (by kernel_rfl) (by kernel_rfl) ?_
                            refine TS_know 181 (b := true) hb146 (by kernel_rfl) (by kernel_rfl) ?_
                            refine TS_go 6 ?_
                            replace h := condO h
                            rcases h with ⟨hb147, h⟩ | ⟨hb147, h⟩
                            · refine TS_know 184 (b := true) hb147 (by kernel_rfl) (by kernel_rfl) ?_
                              refine TS_know 185 (b := true) hb147 (by kernel_rfl) (by kernel_rfl) ?_
                              refine TS_know 178 (b := true) hb147 (by kernel_rfl) (by kernel_rfl) ?_
                              refine TS_T (by kernel_rfl) rfl ?_
                              refine TS_go 3 ?_
                              replace h := bindO h
                              obtain ⟨v148, hv148, h⟩ := h
                              refine TS_call [] (ok_ref29_Get l10 0 8 v148 hv148) (by kernel_rfl) (by kernel_rfl) ?_
                              refine TS_go 4 ?_
                              refine TS_outJ (by kernel_rfl) ?_
                              refine TS_go 1 ?_
                              have ret := Option.some.inj h
                              subst ret
                              exact TS_againB _ ⟨[(0, []), (4, []), (5, []), (6, [])], [(600000, (600000, [])), (6, (6, []))]⟩ rfl (by kernel_rfl) (by kernel_rfl)
                            · refine TS_know 184 (b := false) hb147 (by kernel_rfl) (by kernel_rfl) ?_
                              refine TS_know 185 (b := false) hb147 (by kernel_rfl) (by kernel_rfl) ?_
                              refine TS_know 178 (b := false) hb147 (by kernel_rfl) (by kernel_rfl) ?_
                              refine TS_F (by kernel_rfl) rfl ?_
                              refine TS_go 5 ?_
                              refine TS_nilT 2 600001 39 40 (by kernel_rfl) ?_
                              refine TS_fitU ⟨[(2, []), (3, [])], [(600001, (900000, []))]⟩ (by kernel_rfl) ?_
                              refine TS_go 2 ?_
                              refine TS_outJ (by kernel_rfl) ?_
                              refine TS_go 1 ?_
                              have ret := Option.some.inj h
                              subst ret
                              have hy1q := hy1 _ rfl
                              subst hy1q
                              replace h := (elimR hK1)
                              refine TS_retB rfl (by kernel_rfl) ?_
                              refine TS_go 2 ?_
                              have ret := Option.some.inj h
                              subst ret
                              exact TS_ret (by kernel_rfl) (by kernel_rfl) (by kernel_rfl)
                          · refine TS_know 180 (b := false) hb146 (by kernel_rfl) (by kernel_rfl) ?_
                            refine TS_know 181 (b := false) hb146 (by kernel_rfl) (by kernel_rfl) ?_
                            refine TS_go 6 ?_
                            refine TS_F (by kernel_rfl) rfl ?_
                            refine TS_go 5 ?_
                            refine TS_nilT 2 600001 39 40 (by kernel_rfl) ?_
                            refine TS_fitU ⟨[(2, []), (3, [])], [(600001, (900000, []))]⟩ (by kernel_rfl) ?_
                            refine TS_go 2 ?_
                            refine TS_outJ (by kernel_rfl) ?_
                            refine TS_go 1 ?_
                            have ret := Option.some.inj h
                            subst ret
                            have hy1q := hy1 _ rfl
                            subst hy1q
                            replace h := (elimR hK1)
                            refine TS_retB rfl (by kernel_rfl) ?_
                            refine TS_go 2 ?_
                            have ret := Option.some.inj h
                            subst ret
                            exact TS_ret (by kernel_rfl) (by kernel_rfl) (by kernel_rfl)
                  · refine TS_know 76 (b := false) hb104 (by kernel_rfl) (by kernel_rfl) ?_
                    refine TS_know 77 (b := false) hb104 (by kernel_rfl) (by kernel_rfl) ?_
                    refine TS_go 6 ?_
                    refine TS_F (by kernel_rfl) rfl ?_
                    refine TS_go 5 ?_
                    replace h := condO h
                    rcases h with ⟨hb149, h⟩ | ⟨hb149, h⟩
                    · refine TS_know 119 (b := true) hb149 (by kernel_rfl) (by kernel_rfl) ?_
                      refine TS_know 120 (b := true) hb149 (by kernel_rfl) (by kernel_rfl) ?_
                      refine TS_go 6 ?_
                      replace h := condO h
                      rcases h with ⟨hb150, h⟩ | ⟨hb150, h⟩
                      · refine TS_know 123 (b := true) hb150 (by kernel_rfl) (by kernel_rfl) ?_
                        refine TS_know 124 (b := true) hb150 (by kernel_rfl) (by kernel_rfl) ?_
                        refine TS_know 117 (b := true) hb150 (by kernel_rfl) (by kernel_rfl) ?_
                        refine TS_T (by kernel_rfl) rfl ?_
                        refine TS_draw (by kernel_rfl) ?_
                        refine TD_go 1 ?_
                        replace h := bindO h
                        obtain ⟨l151, hl151, h⟩ := h
                        refine TD_sub (ecI .u8) 1 hl151 (by kernel_rfl) (by kernel_rfl) ?_
                        refine TD_go 1 ?_
                        replace h := bindO h
                        obtain ⟨e152, he152, h⟩ := h
                        refine TD_idx (ecI .u8) he152 (by kernel_rfl) (by kernel_rfl) ?_
                        refine TD_go 3 ?_
                        replace h := bindO h
                        obtain ⟨e153, he153, h⟩ := h
                        refine TD_idx (ecI .u8) he153 (by kernel_rfl) (by kernel_rfl) ?_
                        refine TD_go 3 ?_
                        replace h := bindO h
                        obtain ⟨v154, hv154, h⟩ := h
                        refine TD_call [] (ok_ref29_both l151 (IntKind.wrap .i64 e152) (IntKind.wrap .i64 e153) 0 [0, 0, 0, 0, 0, 0, 0, 0, 0, 0, 0, 0, 0, 0, 0, 0] v154 hv154) (by kernel_rfl) (by kernel_rfl) ?_
                        refine TD_go 6 ?_
                        refine TD_end (by kernel_rfl) ?_
                        refine TS_go 1 ?_
                        exact TS_meet (v154.2, s1.2.2.2, (S_Notice.mk (IntKind.wrap .i64 e8) 0 0 0 v154.1 0)) ⟨[(0, []), (4, []), (5, []), (6, []), (9, []), (10, [])], [(600000, (600000, [])), (6, (6, [])), (9, (9, []))]⟩ h (by kernel_rfl) (by kernel_rfl)
                      · refine TS_know 123 (b := false) hb150 (by kernel_rfl) (by kernel_rfl) ?_
                        refine TS_know 124 (b := false) hb150 (by kernel_rfl) (by kernel_rfl) ?_
                        refine TS_know 117 (b := false) hb150 (by kernel_rfl) (by kernel_rfl) ?_
                        refine TS_F (by kernel_rfl) rfl ?_
                        refine TS_go 5 ?_
                        replace h := condO h
                        rcases h with ⟨hb155, h⟩ | ⟨hb155, h⟩
                        · refine TS_know 143 (b := true) hb155 (by kernel_rfl) (by kernel_rfl) ?_
                          refine TS_know 144 (b := true) hb155 (by kernel_rfl) (by kernel_rfl) ?_
                          refine TS_go 6 ?_
                          replace h := condO h
                          rcases h with ⟨hb156, h⟩ | ⟨hb156, h⟩
                          · refine TS_know 147 (b := true) hb156 (by kernel_rfl) (by kernel_rfl) ?_
                            refine TS_know 148 (b := true) hb156 (by kernel_rfl) (by kernel_rfl) ?_
                            refine TS_know 141 (b := true) hb156 (by kernel_rfl) (by kernel_rfl) ?_
                            refine TS_T (by kernel_rfl) rfl ?_
                            refine TS_go 3 ?_
                            replace h := bindO h
                            obtain ⟨v157, hv157, h⟩ := h
                            refine TS_call [] (ok_ref29_Get l10 2 2 v157 hv157) (by kernel_rfl) (by kernel_rfl) ?_
                            refine TS_go 7 ?_
                            replace h := bindO h
                            obtain ⟨e158, he158, h⟩ := h
                            refine TS_idx (ecI .u8) he158 (by kernel_rfl) (by kernel_rfl) ?_
                            refine TS_go 6 ?_
                            refine TS_draw (by kernel_rfl) ?_
                            refine TD_go 1 ?_
                            replace h := bindO h
                            obtain ⟨l159, hl159, h⟩ := h
                            refine TD_sub (ecI .u8) 1 hl159 (by kernel_rfl) (by kernel_rfl) ?_
                            refine TD_go 1 ?_
                            replace h := bindO h
                            obtain ⟨e160, he160, h⟩ := h
                            refine TD_idx (ecI .u8) he160 (by kernel_rfl) (by kernel_rfl) ?_
                            refine TD_go 3 ?_
                            replace h := bindO h
                            obtain ⟨e161, he161, h⟩ := h
                            refine TD_idx (ecI .u8) he161 (by kernel_rfl) (by kernel_rfl) ?_
                            refine TD_go 3 ?_
                            replace h := bindO h
                            obtain ⟨v162, hv162, h⟩ := h
                            refine TD_call [] (ok_ref29_both l159 (IntKind.wrap .i64 e160) (IntKind.wrap .i64 e161) 0 [0, 0, 0, 0, 0, 0, 0, 0, 0, 0, 0, 0, 0, 0, 0, 0] v162 hv162) (by kernel_rfl) (by kernel_rfl) ?_
                            refine TD_go 6 ?_
                            refine TD_end (by kernel_rfl) ?_
                            refine TS_go 2 ?_
                            replace h := bindO h
                            obtain ⟨v163, hv163, h⟩ := h
                            refine TS_call [] (ok_ref29_Get l10 5 8 v163 hv163) (by kernel_rfl) (by kernel_rfl) ?_
                            refine TS_go 5 ?_
                            exact TS_meet (v162.2, s1.2.2.2, (S_Notice.mk (IntKind.wrap .i64 e8) (IntKind.wrap .u16 v157) 0 0 (S_Destination.mk v162.1.Dst v162.1.Src v163) (IntKind.wrap .i64 e158))) ⟨[(0, []), (4, []), (5, []), (6, []), (9, []), (10, [])], [(600000, (600000, [])), (6, (6, [])), (9, (9, []))]⟩ h (by kernel_rfl) (by kernel_rfl)
                          · refine TS_know 147 (b := false) hb156 (by kernel_rfl) (by kernel_rfl) ?_
                            refine TS_know 148 (b := false) hb156 (by kernel_rfl) (by kernel_rfl) ?_
                            refine TS_know 141 (b := false) hb156 (by kernel_rfl) (by kernel_rfl) ?_
                            refine TS_F (by kernel_rfl) rfl ?_
                            refine TS_go 5 ?_
                            replace h := condO h
                            rcases h with ⟨hb164, h⟩ | ⟨hb164, h⟩
                            · refine TS_know 180 (b := true) hb164 (by kernel_rfl) (by kernel_rfl) ?_
                              refine TS_know 181 (b := true) hb164 (by kernel_rfl) (by kernel_rfl) ?_
                              refine TS_go 6 ?_
                              replace h := condO h
                              rcases h with ⟨hb165, h⟩ | ⟨hb165, h⟩
                              · refine TS_know 184 (b := true) hb165 (by kernel_rfl) (by kernel_rfl) ?_
                                refine TS_know 185 (b := true) hb165 (by kernel_rfl) (by kernel_rfl) ?_
                                refine TS_know 178 (b := true) hb165 (by kernel_rfl) (by kernel_rfl) ?_
                                refine TS_T (by kernel_rfl) rfl ?_
                                refine TS_go 3 ?_
                                replace h := bindO h
                                obtain ⟨v166, hv166, h⟩ := h
                                refine TS_call [] (ok_ref29_Get l10 0 8 v166 hv166) (by kernel_rfl) (by kernel_rfl) ?_
                                refine TS_go 4 ?_
                                refine TS_outJ (by kernel_rfl) ?_
                                refine TS_go 1 ?_
                                have ret := Option.some.inj h
                                subst ret
                                exact TS_againB _ ⟨[(0, []), (4, []), (5, []), (6, [])], [(600000, (600000, [])), (6, (6, []))]⟩ rfl (by kernel_rfl) (by kernel_rfl)
                              · refine TS_know 184 (b := false) hb165 (by kernel_rfl) (by kernel_rfl) ?_
                                refine TS_know 185 (b := false) hb165 (by kernel_rfl) (by kernel_rfl) ?_
                                refine TS_know 178 (b := false) hb165 (by kernel_rfl) (by kernel_rfl) ?_
                                refine TS_F (by kernel_rfl) rfl ?_
                                refine TS_go 5 ?_
                                refine TS_nilT 2 600001 39 40 (by kernel_rfl) ?_
                                refine TS_fitU ⟨[(2, []), (3, [])], [(600001, (900000, []))]⟩ (by kernel_rfl) ?_
                                refine TS_go 2 ?_
                                refine TS_outJ (by kernel_rfl) ?_
                                refine TS_go 1 ?_
                                have ret := Option.some.inj h
                                subst ret
                                have hy1q := hy1 _ rfl
                                subst hy1q
                                replace h := (elimR hK1)
                                refine TS_retB rfl (by kernel_rfl) ?_
                                refine TS_go 2 ?_
                                have ret := Option.some.inj h
                                subst ret
                                exact TS_ret (by kernel_rfl) (by kernel_rfl) (by kernel_rfl)
                            · refine TS_know 180 (b := false) hb164 (by kernel_rfl) (by kernel_rfl) ?_
                              refine TS_know 181 (b := false) hb164 (by kernel_rfl) (by kernel_rfl) ?_
                              refine TS_go 6 ?_
                              refine TS_F (by kernel_rfl) rfl ?_
                              refine TS_go 5 ?_
                              refine TS_nilT 2 600001 39 40 (by kernel_rfl) ?_
                              refine TS_fitU ⟨[(2, []), (3, [])], [(600001, (900000, []))]⟩ (by kernel_rfl) ?_
                              refine TS_go 2 ?_
                              refine TS_outJ (by kernel_rfl) ?_
                              refine TS_go 1 ?_
                              have ret := Option.some.inj h
                              subst ret
                              have hy1q := hy1 _ rfl
                              subst hy1q
                              replace h := (elimR hK1)
                              refine TS_retB rfl (by kernel_rfl) ?_
                              refine TS_go 2 ?_
                              have ret := Option.some.inj h
                              subst ret
                              exact TS_ret (by kernel_rfl) (by kernel_rfl) (by kernel_rfl)
                        · refine TS_know 143 (b := false) hb155 (by kernel_rfl) (by kernel_rfl) ?_
                          refine TS_know 144 (b := false) hb155 (by kernel_rfl) (by kernel_rfl) ?_
                          refine TS_go 6 ?_
                          refine TS_F (by kernel_rfl) rfl ?_
                          refine TS_go 5 ?_
                          replace h := condO h
                          rcases h with ⟨hb167, h⟩ | ⟨hb167, h⟩
                          · refine TS_know 180 (b := true) hb167 (by kernel_rfl) (by kernel_rfl) ?_
                            refine TS_know 181 (b := true) hb167 (by kernel_rfl) (by kernel_rfl) ?_
                            refine TS_go 6 ?_
                            replace h := condO h
                            rcases h with ⟨hb168, h⟩ | ⟨hb168, h⟩
                            · refine TS_know 184 (b := true) hb168 (by kernel_rfl) (by kernel_rfl) ?_
                              refine TS_know 185 (b := true) hb168 (by kernel_rfl) (by kernel_rfl) ?_
                              refine TS_know 178 (b := true) hb168 (by kernel_rfl) (by kernel_rfl) ?_
                              refine TS_T (by kernel_rfl) rfl ?_
                              refine TS_go 3 ?_
                              replace h := bindO h
                              obtain ⟨v169, hv169, h⟩ := h
                              refine TS_call [] (ok_ref29_Get l10 0 8 v169 hv169) (by kernel_rfl) (by kernel_rfl) ?_
                              refine TS_go 4 ?_
                              refine TS_outJ (by kernel_rfl) ?_
                              refine TS_go 1 ?_
                              have ret := Option.some.inj h
                              subst ret
                              exact TS_againB _ ⟨[(0, []), (4, []), (5, []), (6, [])], [(600000, (600000, [])), (6, (6, []))]⟩ rfl (by kernel_rfl) (by kernel_rfl)
                            · refine TS_know 184 (b := false) hb168 (by kernel_rfl) (by kernel_rfl) ?_
                              refine TS_know 185 (b := false) hb168 (by kernel_rfl) (by kernel_rfl) ?_
                              refine TS_know 178 (b := false) hb168 (by kernel_rfl) (by kernel_rfl) ?_
                              refine TS_F (by kernel_rfl) rfl ?_
                              refine TS_go 5 ?_
                              refine TS_nilT 2 600001 39 40 (by kernel_rfl) ?_
                              refine TS_fitU ⟨[(2, []), (3, [])], [(600001, (900000, []))]⟩ (by kernel_rfl) ?_
                              refine TS_go 2 ?_
                              refine TS_outJ (by kernel_rfl) ?_
                              refine TS_go 1 ?_
                              have ret := Option.some.inj h
                              subst ret
                              have hy1q := hy1 _ rfl
                              subst hy1q
                              replace h := (elimR hK1)
                              refine TS_retB rfl (by kernel_rfl) ?_
                              refine TS_go 2 ?_
                              have ret := Option.some.inj h
                              subst ret
                              exact TS_ret (by kernel_rfl) (by kernel_rfl) (by kernel_rfl)
                          · refine TS_know 180 (b := false) hb167 (by kernel_rfl) (by kernel_rfl) ?_
                            refine TS_know 181 (b := false) hb167 (by kernel_rfl) (by kernel_rfl) ?_
                            refine TS_go 6 ?_
                            refine TS_F (by kernel_rfl) rfl ?_
                            refine TS_go 5 ?_
                            refine TS_nilT 2 600001 39 40 (by kernel_rfl) ?_
                            refine TS_fitU ⟨[(2, []), (3, [])], [(600001, (900000, []))]⟩ (by kernel_rfl) ?_
                            refine TS_go 2 ?_
                            refine TS_outJ (by kernel_rfl) ?_
                            refine TS_go 1 ?_
                            have ret := Option.some.inj h
                            subst ret
                            have hy1q := hy1 _ rfl
                            subst hy1q
                            replace h := (elimR hK1)
                            refine TS_retB rfl (by kernel_rfl) ?_
                            refine TS_go 2 ?_
                            have ret := Option.some.inj h
                            subst ret
                            exact TS_ret (by kernel_rfl) (by kernel_rfl) (by kernel_rfl)
                    · refine TS_know 119 (b := false) hb149 (by kernel_rfl) (by kernel_rfl) ?_
                      refine TS_know 120 (b := false) hb149 (by kernel_rfl) (by kernel_rfl) ?_
                      refine TS_go 6 ?_
                      refine TS_F (by kernel_rfl) rfl ?_
                      refine TS_go 5 ?_
                      replace h := condO h
                      rcases h with ⟨hb170, h⟩ | ⟨hb170, h⟩
                      · refine TS_know 143 (b := true) hb170 (by kernel_rfl) (by kernel_rfl) ?_
                        refine TS_know 144 (b := true) hb170 (by kernel_rfl) (by kernel_rfl) ?_
                        refine TS_go 6 ?_
                        replace h := condO h
                        rcases h with ⟨hb171, h⟩ | ⟨hb171, h⟩
                        · refine TS_know 147 (b := true) hb171 (by kernel_rfl) (by kernel_rfl) ?_
                          refine TS_know 148 (b := true) hb171 (by kernel_rfl) (by kernel_rfl) ?_
                          refine TS_know 141 (b := true) hb171 (by kernel_rfl) (by kernel_rfl) ?_
                          refine TS_T (by kernel_rfl) rfl ?_
                          refine TS_go 3 ?_
                          replace h := bindO h
                          obtain ⟨v172, hv172, h⟩ := h
                          refine TS_call [] (ok_ref29_Get l10 2 2 v172 hv172) (by kernel_rfl) (by kernel_rfl) ?_
                          refine TS_go 7 ?_
                          replace h := bindO h
                          obtain ⟨e173, he173, h⟩ := h
                          refine TS_idx (ecI .u8) he173 (by kernel_rfl) (by kernel_rfl) ?_
                          refine TS_go 6 ?_
                          refine TS_draw (by kernel_rfl) ?_
                          refine TD_go 1 ?_
                          replace h := bindO h
                          obtain ⟨l174, hl174, h⟩ := h
                          refine TD_sub (ecI .u8) 1 hl174 (by kernel_rfl) (by kernel_rfl) ?_
                          refine TD_go 1 ?_
                          replace h := bindO h
                          obtain ⟨e175, he175, h⟩ := h
                          refine TD_idx (ecI .u8) he175 (by kernel_rfl) (by kernel_rfl) ?_
                          refine TD_go 3 ?_
                          replace h := bindO h
                          obtain ⟨e176, he176, h⟩ := h
                          refine TD_idx (ecI .u8) he176 (by kernel_rfl) (by kernel_rfl) ?_
                          refine TD_go 3 ?_
                          replace h := bindO h
                          obtain ⟨v177, hv177, h⟩ := h
                          refine TD_call [] (ok_ref29_both l174 (IntKind.wrap .i64 e175) (IntKind.wrap .i64 e176) 0 [0, 0, 0, 0, 0, 0, 0, 0, 0, 0, 0, 0, 0, 0, 0, 0] v177 hv177) (by kernel_rfl) (by kernel_rfl) ?_
                          refine TD_go 6 ?_
                          refine TD_end (by kernel_rfl) ?_
                          refine TS_go 2 ?_
                          replace h := bindO h
                          obtain ⟨v178, hv178, h⟩ := h
                          refine TS_call [] (ok_ref29_Get l10 5 8 v178 hv178) (by kernel_rfl) (by kernel_rfl) ?_
                          refine TS_go 5 ?_
                          exact TS_meet (v177.2, s1.2.2.2, (S_Notice.mk (IntKind.wrap .i64 e8) (IntKind.wrap .u16 v172) 0 0 (S_Destination.mk v177.1.Dst v177.1.Src v178) (IntKind.wrap .i64 e173))) ⟨[(0, []), (4, []), (5, []), (6, []), (9, []), (10, [])], [(600000, (600000, [])), (6, (6, [])), (9, (9, []))]⟩ h (by kernel_rfl) (by kernel_rfl)
                        · refine TS_know 147 (b := false) hb171 (by kernel_rfl) (by kernel_rfl) ?_
                          refine TS_know 148 (b := false) hb171 (by kernel_rfl) (by kernel_rfl) ?_
                          refine TS_know 141 (b := false) hb171 (by kernel_rfl) (by kernel_rfl) ?_
                          refine TS_F (by kernel_rfl) rfl ?_
                          refine TS_go 5 ?_
                          replace h := condO h
                          rcases h with ⟨hb179, h⟩ | ⟨hb179, h⟩
                          · refine TS_know 180 (b := true) hb179 (by kernel_rfl) (by kernel_rfl) ?_
                            refine TS_know 181 (b := true) hb179 (by kernel_rfl) (by kernel_rfl) ?_
                            refine TS_go 6 ?_
                            replace h := condO h
                            rcases h with ⟨hb180, h⟩ | ⟨hb180, h⟩
                            · refine TS_know 184 (b := true) hb180 (by kernel_rfl) (by kernel_rfl) ?_
                              refine TS_know 185 (b := true) hb180 (by kernel_rfl) (by kernel_rfl) ?_
                              refine TS_know 178 (b := true) hb180 (by kernel_rfl) (by kernel_rfl) ?_
                              refine TS_T (by kernel_rfl) rfl ?_
                              refine TS_go 3 ?_
                              replace h := bindO h
                              obtain ⟨v181, hv181, h⟩ := h
                              refine TS_call [] (ok_ref29_Get l10 0 8 v181 hv181) (by kernel_rfl) (by kernel_rfl) ?_
                              refine TS_go 4 ?_
                              refine TS_outJ (by kernel_rfl) ?_
                              refine TS_go 1 ?_
                              have ret := Option.some.inj h
                              subst ret
                              exact TS_againB _ ⟨[(0, []), (4, []), (5, []), (6, [])], [(600000, (600000, [])), (6, (6, []))]⟩ rfl (by kernel_rfl) (by kernel_rfl)
                            · refine TS_know 184 (b := false) hb180 (by kernel_rfl) (by kernel_rfl) ?_
                              refine TS_know 185 (b := false) hb180 (by kernel_rfl) (by kernel_rfl) ?_
                              refine TS_know 178 (b := false) hb180 (by kernel_rfl) (by kernel_rfl) ?_
                              refine TS_F (by kernel_rfl) rfl ?_
                              refine TS_go 5 ?_
                              refine TS_nilT 2 600001 39 40 (by kernel_rfl) ?_
                              refine TS_fitU ⟨[(2, []), (3, [])], [(600001, (900000, []))]⟩ (by kernel_rfl) ?_
                              refine TS_go 2 ?_
                              refine TS_outJ (by kernel_rfl) ?_
                              refine TS_go 1 ?_
                              have ret := Option.some.inj h
                              subst ret
                              have hy1q := hy1 _ rfl
                              subst hy1q
                              replace h := (elimR hK1)
                              refine TS_retB rfl (by kernel_rfl) ?_
                              refine TS_go 2 ?_
                              have ret := Option.some.inj h
                              subst ret
                              exact TS_ret (by kernel_rfl) (by kernel_rfl) (by kernel_rfl)
                          · refine TS_know 180 (b := false) hb179 (by kernel_rfl) (by kernel_rfl) ?_
                            refine TS_know 181 (b := false) hb179 (by kernel_rfl) (by kernel_rfl) ?_
                            refine TS_go 6 ?_
                            refine TS_F (by kernel_rfl) rfl ?_
                            refine TS_go 5 ?_
                            refine TS_nilT 2 600001 39 40 (by kernel_rfl) ?_
                            refine TS_fitU ⟨[(2, []), (3, [])], [(600001, (900000, []))]⟩ (by kernel_rfl) ?_
                            refine TS_go 2 ?_
                            refine TS_outJ (by kernel_rfl) ?_
                            refine TS_go 1 ?_
                            have ret := Option.some.inj h
                            subst ret
                            have hy1q := hy1 _ rfl
                            subst hy1q
                            replace h := (elimR hK1)
                            refine TS_retB rfl (by kernel_rfl) ?_
                            refine TS_go 2 ?_
                            have ret := Option.some.inj h
                            subst ret
                            exact TS_ret (by kernel_rfl) (by kernel_rfl) (by kernel_rfl)
                      · refine TS_know 143 (b := false) hb170 (by kernel_rfl) (by kernel_rfl) ?_
                        refine TS_know 144 (b := false) hb170 (by kernel_rfl) (by kernel_rfl) ?_
                        refine TS_go 6 ?_
                        refine TS_F (by kernel_rfl) rfl ?_
                        refine TS_go 5 ?_
                        replace h := condO h
                        rcases h with ⟨hb182, h⟩ | ⟨hb182, h⟩
                        · refine TS_know 180 (b := true) hb182 (by kernel_rfl) (by kernel_rfl) ?_
                          refine TS_know 181 (b := true) hb182 (by kernel_rfl) (by kernel_rfl) ?_
                          refine TS_go 6 ?_
                          replace h := condO h
                          rcases h with ⟨hb183, h⟩ | ⟨hb183, h⟩
                          · refine TS_know 184 (b := true) hb183 (by kernel_rfl) (by kernel_rfl) ?_
                            refine TS_know 185 (b := true) hb183 (by kernel_rfl) (by kernel_rfl) ?_
                            refine TS_know 178 (b := true) hb183 (by kernel_rfl) (by kernel_rfl) ?_
                            refine TS_T (by kernel_rfl) rfl ?_
                            refine TS_go 3 ?_
                            replace h := bindO h
                            obtain ⟨v184, hv184, h⟩ := h
                            refine TS_call [] (ok_ref29_Get l10 0 8 v184 hv184) (by kernel_rfl) (by kernel_rfl) ?_
                            refine TS_go 4 ?_
                            refine TS_outJ (by kernel_rfl) ?_
                            refine TS_go 1 ?_
                            have ret := Option.some.inj h
                            subst ret
                            exact TS_againB _ ⟨[(0, []), (4, []), (5, []), (6, [])], [(600000, (600000, [])), (6, (6, []))]⟩ rfl (by kernel_rfl) (by kernel_rfl)
                          · refine TS_know 184 (b := false) hb183 (by kernel_rfl) (by kernel_rfl) ?_
                            refine TS_know 185 (b := false) hb183 (by kernel_rfl) (by kernel_rfl) ?_
                            refine TS_know 178 (b := false) hb183 (by kernel_rfl) (by kernel_rfl) ?_
                            refine TS_F (by kernel_rfl) rfl ?_
                            refine TS_go 5 ?_
                            refine TS_nilT 2 600001 39 40 (by kernel_rfl) ?_
                            refine TS_fitU ⟨[(2, []), (3, [])], [(600001, (900000, []))]⟩ (by kernel_rfl) ?_
                            refine TS_go 2 ?_
                            refine TS_outJ (by kernel_rfl) ?_
                            refine TS_go 1 ?_
                            have ret := Option.some.inj h
                            subst ret
                            have hy1q := hy1 _ rfl
                            subst hy1q
                            replace h := (elimR hK1)
                            refine TS_retB rfl (by kernel_rfl) ?_
                            refine TS_go 2 ?_
                            have ret := Option.some.inj h
                            subst ret
                            exact TS_ret (by kernel_rfl) (by kernel_rfl) (by kernel_rfl)
                        · refine TS_know 180 (b := false) hb182 (by kernel_rfl) (by kernel_rfl) ?_
                          refine TS_know 181 (b := false) hb182 (by kernel_rfl) (by kernel_rfl) ?_
                          refine TS_go 6 ?_
                          refine TS_F (by kernel_rfl) rfl ?_
                          refine TS_go 5 ?_
                          refine TS_nilT 2 600001 39 40 (by kernel_rfl) ?_
                          refine TS_fitU ⟨[(2, []), (3, [])], [(600001, (900000, []))]⟩ (by kernel_rfl) ?_
                          refine TS_go 2 ?_
                          refine TS_outJ (by kernel_rfl) ?_
                          refine TS_go 1 ?_
                          have ret := Option.some.inj h
                          subst ret
                          have hy1q := hy1 _ rfl
                          subst hy1q
                          replace h := (elimR hK1)
                          refine TS_retB rfl (by kernel_rfl) ?_
                          refine TS_go 2 ?_
                          have ret := Option.some.inj h
                          subst ret
                          exact TS_ret (by kernel_rfl) (by kernel_rfl) (by kernel_rfl)
            · refine TS_know 49 (b := false) hb16 (by kernel_rfl) (by kernel_rfl) ?_
              refine TS_know 50 (b := false) hb16 (by kernel_rfl) (by kernel_rfl) ?_
              refine TS_go 6 ?_
              refine TS_F (by kernel_rfl) rfl ?_
              refine TS_go 5 ?_
              replace h := condO h
              rcases h with ⟨hb185, h⟩ | ⟨hb185, h⟩
              · refine TS_know 61 (b := true) hb185 (by kernel_rfl) (by kernel_rfl) ?_
                refine TS_know 62 (b := true) hb185 (by kernel_rfl) (by kernel_rfl) ?_
                refine TS_go 6 ?_
                replace h := condO h
                rcases h with ⟨hb186, h⟩ | ⟨hb186, h⟩
                · refine TS_know 65 (b := true) hb186 (by kernel_rfl) (by kernel_rfl) ?_
                  refine TS_know 66 (b := true) hb186 (by kernel_rfl) (by kernel_rfl) ?_
                  refine TS_know 59 (b := true) hb186 (by kernel_rfl) (by kernel_rfl) ?_
                  refine TS_T (by kernel_rfl) rfl ?_
                  refine TS_go 3 ?_
                  replace h := bindO h
                  obtain ⟨v187, hv187, h⟩ := h
                  refine TS_call [] (ok_ref29_Get l10 0 8 v187 hv187) (by kernel_rfl) (by kernel_rfl) ?_
                  refine TS_go 5 ?_
                  replace h := bindO h
                  obtain ⟨v188, hv188, h⟩ := h
                  refine TS_call [] (ok_ref29_Get l10 8 2 v188 hv188) (by kernel_rfl) (by kernel_rfl) ?_
                  refine TS_go 5 ?_
                  exact TS_meet (true, s1.2.2.2, (S_Notice.mk (IntKind.wrap .i64 e8) 0 (IntKind.wrap .i64 v188) v187 (S_Destination.mk (S_Prefix.mk [0, 0, 0, 0, 0, 0, 0, 0, 0, 0, 0, 0, 0, 0, 0, 0] 0) (S_Prefix.mk [0, 0, 0, 0, 0, 0, 0, 0, 0, 0, 0, 0, 0, 0, 0, 0] 0) 0) 0)) ⟨[(0, []), (4, []), (5, []), (6, []), (9, []), (10, [])], [(600000, (600000, [])), (6, (6, [])), (9, (9, []))]⟩ h (by kernel_rfl) (by kernel_rfl)
                · refine TS_know 65 (b := false) hb186 (by kernel_rfl) (by kernel_rfl) ?_
                  refine TS_know 66 (b := false) hb186 (by kernel_rfl) (by kernel_rfl) ?_
                  refine TS_know 59 (b := false) hb186 (by kernel_rfl) (by kernel_rfl) ?_
                  refine TS_F (by kernel_rfl) rfl ?_
                  refine TS_go 5 ?_
                  replace h := condO h
                  rcases h with ⟨hb189, h⟩ | ⟨hb189, h⟩
                  · refine TS_know 76 (b := true) hb189 (by kernel_rfl) (by kernel_rfl) ?_
                    refine TS_know 77 (b := true) hb189 (by kernel_rfl) (by kernel_rfl) ?_
                    refine TS_go 6 ?_
                    replace h := condO h
                    rcases h with ⟨hb190, h⟩ | ⟨hb190, h⟩
                    · refine TS_know 80 (b := true) hb190 (by kernel_rfl) (by kernel_rfl) ?_
                      refine TS_know 81 (b := true) hb190 (by kernel_rfl) (by kernel_rfl) ?_
                      refine TS_know 74 (b := true) hb190 (by kernel_rfl) (by kernel_rfl) ?_
                      refine TS_T (by kernel_rfl) rfl ?_
                      refine TS_go 3 ?_
                      replace h := bindO h
                      obtain ⟨v191, hv191, h⟩ := h
                      refine TS_call [] (ok_ref29_Get l10 3 2 v191 hv191) (by kernel_rfl) (by kernel_rfl) ?_
                      refine TS_go 7 ?_
                      replace h := bindO h
                      obtain ⟨v192, hv192, h⟩ := h
                      refine TS_call [] (ok_ref29_Get l10 5 2 v192 hv192) (by kernel_rfl) (by kernel_rfl) ?_
                      refine TS_go 5 ?_
                      refine TS_draw (by kernel_rfl) ?_
                      refine TD_go 1 ?_
                      replace h := bindO h
                      obtain ⟨l193, hl193, h⟩ := h
                      refine TD_sub (ecI .u8) 1 hl193 (by kernel_rfl) (by kernel_rfl) ?_
                      refine TD_go 1 ?_
                      replace h := bindO h
                      obtain ⟨e194, he194, h⟩ := h
                      refine TD_idx (ecI .u8) he194 (by kernel_rfl) (by kernel_rfl) ?_
                      refine TD_go 3 ?_
                      replace h := bindO h
                      obtain ⟨e195, he195, h⟩ := h
                      refine TD_idx (ecI .u8) he195 (by kernel_rfl) (by kernel_rfl) ?_
                      refine TD_go 3 ?_
                      replace h := bindO h
                      obtain ⟨e196, he196, h⟩ := h
                      refine TD_idx (ecI .u8) he196 (by kernel_rfl) (by kernel_rfl) ?_
                      refine TD_go 3 ?_
                      replace h := bindO h
                      obtain ⟨v197, hv197, h⟩ := h
                      refine TD_call [] (ok_ref29_both l193 (IntKind.wrap .i64 e194) (IntKind.wrap .i64 e195) (IntKind.wrap .i64 e196) s1.2.2.2 v197 hv197) (by kernel_rfl) (by kernel_rfl) ?_
                      refine TD_go 6 ?_
                      refine TD_end (by kernel_rfl) ?_
                      refine TS_go 15 ?_
                      exact TS_meet (v197.2, v197.1.Dst.IP, (S_Notice.mk (IntKind.wrap .i64 e8) (IntKind.wrap .u16 v191) (IntKind.wrap .i64 v192) 0 (S_Destination.mk v197.1.Dst v197.1.Src s1.2.2.1) 0)) ⟨[(0, []), (4, []), (5, []), (6, []), (9, []), (10, [])], [(600000, (600000, [])), (6, (6, [])), (9, (9, []))]⟩ h (by kernel_rfl) (by kernel_rfl)
                    · refine TS_know 80 (b := false) hb190 (by kernel_rfl) (by kernel_rfl) ?_
                      refine TS_know 81 (b := false) hb190 (by kernel_rfl) (by kernel_rfl) ?_
                      refine TS_know 74 (b := false) hb190 (by kernel_rfl) (by kernel_rfl) ?_
                      refine TS_F (by kernel_rfl) rfl ?_
                      refine TS_go 5 ?_
                      replace h := condO h
                      rcases h with ⟨hb198, h⟩ | ⟨hb198, h⟩
                      · refine TS_know 119 (b := true) hb198 (by kernel_rfl) (by kernel_rfl) ?_
                        refine TS_know 120 (b := true) hb198 (by kernel_rfl) (by kernel_rfl) ?_
                        refine TS_go 6 ?_
                        replace h := condO h
                        rcases h with ⟨hb199, h⟩ | ⟨hb199, h⟩
                        · refine TS_know 123 (b := true) hb199 (by kernel_rfl) (by kernel_rfl) ?_
                          refine TS_know 124 (b := true) hb199 (by kernel_rfl) (by kernel_rfl) ?_
                          refine TS_know 117 (b := true) hb199 (by kernel_rfl) (by kernel_rfl) ?_
                          refine TS_T (by kernel_rfl) rfl ?_
                          refine TS_draw (by kernel_rfl) ?_
                          refine TD_go 1 ?_
                          replace h := bindO h
                          obtain ⟨l200, hl200, h⟩ := h
                          refine TD_sub (ecI .u8) 1 hl200 (by kernel_rfl) (by kernel_rfl) ?_
                          refine TD_go 1 ?_
                          replace h := bindO h
                          obtain ⟨e201, he201, h⟩ := h
                          refine TD_idx (ecI .u8) he201 (by kernel_rfl) (by kernel_rfl) ?_
                          refine TD_go 3 ?_
                          replace h := bindO h
                          obtain ⟨e202, he202, h⟩ := h
                          refine TD_idx (ecI .u8) he202 (by kernel_rfl) (by kernel_rfl) ?_
                          refine TD_go 3 ?_
                          replace h := bindO h
                          obtain ⟨v203, hv203, h⟩ := h
                          refine TD_call [] (ok_ref29_both l200 (IntKind.wrap .i64 e201) (IntKind.wrap .i64 e202) 0 [0, 0, 0, 0, 0, 0, 0, 0, 0, 0, 0, 0, 0, 0, 0, 0] v203 hv203) (by kernel_rfl) (by kernel_rfl) ?_
                          refine TD_go 6 ?_
                          refine TD_end (by kernel_rfl) ?_
                          refine TS_go 1 ?_
                          exact TS_meet (v203.2, s1.2.2.2, (S_Notice.mk (IntKind.wrap .i64 e8) 0 0 0 v203.1 0)) ⟨[(0, []), (4, []), (5, []), (6, []), (9, []), (10, [])], [(600000, (600000, [])), (6, (6, [])), (9, (9, []))]⟩ h (by kernel_rfl) (by kernel_rfl)
                        · refine TS_know 123 (b := false) hb199 (by kernel_rfl) (by kernel_rfl) ?_
                          refine TS_know 124 (b := false) hb199 (by kernel_rfl) (by kernel_rfl) ?_
                          refine TS_know 117 (b := false) hb199 (by kernel_rfl) (by kernel_rfl) ?_
                          refine TS_F (by kernel_rfl) rfl ?_
                          refine TS_go 5 ?_
                          replace h := condO h
                          rcases h with ⟨hb204, h⟩ | ⟨hb204, h⟩
                          · refine TS_know 143 (b := true) hb204 (by kernel_rfl) (by kernel_rfl) ?_
                            refine TS_know 144 (b := true) hb204 (by kernel_rfl) (by kernel_rfl) ?_
                            refine TS_go 6 ?_
                            replace h := condO h
                            rcases h with ⟨hb205, h⟩ | ⟨hb205, h⟩
                            · refine TS_know 147 (b := true) hb205 (by kernel_rfl) (by kernel_rfl) ?_
                              refine TS_know 148 (b := true) hb205 (by kernel_rfl) (by kernel_rfl) ?_
                              refine TS_know 141 (b := true) hb205 (by kernel_rfl) (by kernel_rfl) ?_
                              refine TS_T (by kernel_rfl) rfl ?_
                              refine TS_go 3 ?_
                              replace h := bindO h
                              obtain ⟨v206, hv206, h⟩ := h
                              refine TS_call [] (ok_ref29_Get l10 2 2 v206 hv206) (by kernel_rfl) (by kernel_rfl) ?_
                              refine TS_go 7 ?_
                              replace h := bindO h
                              obtain ⟨e207, he207, h⟩ := h
                              refine TS_idx (ecI .u8) he207 (by kernel_rfl) (by kernel_rfl) ?_
                              refine TS_go 6 ?_
                              refine TS_draw (by kernel_rfl) ?_
                              refine TD_go 1 ?_
                              replace h := bindO h
                              obtain ⟨l208, hl208, h⟩ := h
                              refine TD_sub (ecI .u8) 1 hl208 (by kernel_rfl) (by kernel_rfl) ?_
                              refine TD_go 1 ?_
                              replace h := bindO h
                              obtain ⟨e209, he209, h⟩ := h
                              refine TD_idx (ecI .u8) he209 (by kernel_rfl) (by kernel_rfl) ?_
                              refine TD_go 3 ?_
                              replace h := bindO h
                              obtain ⟨e210, he210, h⟩ := h
                              refine TD_idx (ecI .u8) he210 (by kernel_rfl) (by kernel_rfl) ?_
                              refine TD_go 3 ?_
                              replace h := bindO h
                              obtain ⟨v211, hv211, h⟩ := h
                              refine TD_call [] (ok_ref29_both l208 (IntKind.wrap .i64 e209) (IntKind.wrap .i64 e210) 0 [0, 0, 0, 0, 0, 0, 0, 0, 0, 0, 0, 0, 0, 0, 0, 0] v211 hv211) (by kernel_rfl) (by kernel_rfl) ?_
                              refine TD_go 6 ?_
                              refine TD_end (by kernel_rfl) ?_
                              refine TS_go 2 ?_
                              replace h := bindO h
                              obtain ⟨v212, hv212, h⟩ := h
                              refine TS_call [] (ok_ref29_Get l10 5 8 v212 hv212) (by kernel_rfl) (by kernel_rfl) ?_
                              refine TS_go 5 ?_
                              exact TS_meet (v211.2, s1.2.2.2, (S_Notice.mk (IntKind.wrap .i64 e8) (IntKind.wrap .u16 v206) 0 0 (S_Destination.mk v211.1.Dst v211.1.Src v212) (IntKind.wrap .i64 e207))) ⟨[(0, []), (4, []), (5, []), (6, []), (9, []), (10, [])], [(600000, (600000, [])), (6, (6, [])), (9, (9, []))]⟩ h (by kernel_rfl) (by kernel_rfl)
                            · refine TS_know 147 (b := false) hb205 (by kernel_rfl) (by kernel_rfl) ?_
                              refine TS_know 148 (b := false) hb205 (by kernel_rfl) (by kernel_rfl) ?_
                              refine TS_know 141 (b := false) hb205 (by kernel_rfl) (by kernel_rfl) ?_
                              refine TS_F (by kernel_rfl) rfl ?_
                              refine TS_go 5 ?_
                              replace h := condO h
                              rcases h with ⟨hb213, h⟩ | ⟨hb213, h⟩
                              · refine TS_know 180 (b := true) hb213 (by kernel_rfl) (by kernel_rfl) ?_
                                refine TS_know 181 (b := true) hb213 (by kernel_rfl) (by kernel_rfl) ?_
                                refine TS_go 6 ?_
                                replace h := condO h
                                rcases h with ⟨hb214, h⟩ | ⟨hb214, h⟩
                                · refine TS_know 184 (b := true) hb214 (by kernel_rfl) (by kernel_rfl) ?_
                                  refine TS_know 185 (b := true) hb214 (by kernel_rfl) (by kernel_rfl) ?_
                                  refine TS_know 178 (b := true) hb214 (by kernel_rfl) (by kernel_rfl) ?_
                                  refine TS_T (by kernel_rfl) rfl ?_
                                  refine TS_go 3 ?_
                                  replace h := bindO h
                                  obtain ⟨v215, hv215, h⟩ := h
                                  refine TS_call [] (ok_ref29_Get l10 0 8 v215 hv215) (by kernel_rfl) (by kernel_rfl) ?_
                                  refine TS_go 4 ?_
                                  refine TS_outJ (by kernel_rfl) ?_
                                  refine TS_go 1 ?_
                                  have ret := Option.some.inj h
                                  subst ret
                                  exact TS_againB _ ⟨[(0, []), (4, []), (5, []), (6, [])], [(600000, (600000, [])), (6, (6, []))]⟩ rfl (by kernel_rfl) (by kernel_rfl)
                                · refine TS_know 184 (b := false) hb214 (by kernel_rfl) (by kernel_rfl) ?_
                                  refine TS_know 185 (b := false) hb214 (by kernel_rfl) (by kernel_rfl) ?_
                                  refine TS_know 178 (b := false) hb214 (by kernel_rfl) (by kernel_rfl) ?_
                                  refine TS_F (by kernel_rfl) rfl ?_
                                  refine TS_go 5 ?_
                                  refine TS_nilT 2 600001 39 40 (by kernel_rfl) ?_
                                  refine TS_fitU ⟨[(2, []), (3, [])], [(600001, (900000, []))]⟩ (by kernel_rfl) ?_
                                  refine TS_go 2 ?_
                                  refine TS_outJ (by kernel_rfl) ?_
                                  refine TS_go 1 ?_
                                  have ret := Option.some.inj h
                                  subst ret
                                  have hy1q := hy1 _ rfl
                                  subst hy1q
                                  replace h := (elimR hK1)
                                  refine TS_retB rfl (by kernel_rfl) ?_
                                  refine TS_go 2 ?_
                                  have ret := Option.some.inj h
                                  subst ret
                                  exact TS_ret (by kernel_rfl) (by kernel_rfl) (by kernel_rfl)
                              · refine TS_know 180 (b := false) hb213 (by kernel_rfl) (by kernel_rfl) ?_
                                refine TS_know 181 (b := false) hb213 (by kernel_rfl) (by kernel_rfl) ?_
                                refine TS_go 6 ?_
                                refine TS_F (by kernel_rfl) rfl ?_
                                refine TS_go 5 ?_
                                refine TS_nilT 2 600001 39 40 (by kernel_rfl) ?_
                                refine TS_fitU ⟨[(2, []), (3, [])], [(600001, (900000, []))]⟩ (by kernel_rfl) ?_
                                refine TS_go 2 ?_
                                refine TS_outJ (by kernel_rfl) ?_
                                refine TS_go 1 ?_
                                have ret := Option.some.inj h
                                subst ret
                                have hy1q := hy1 _ rfl
                                subst hy1q
                                replace h := (elimR hK1)
                                refine TS_retB rfl (by kernel_rfl) ?_
                                refine TS_go 2 ?_
                                have ret := Option.some.inj h
                                subst ret
                                exact TS_ret (by kernel_rfl) (by kernel_rfl) (by kernel_rfl)
                          · refine TS_know 143 (b := false) hb204 (by kernel_rfl) (by kernel_rfl) ?_
                            refine TS_know 144 (b := false) hb204 (by kernel_rfl) (by kernel_rfl) ?_
                            refine TS_go 6 ?_
                            refine TS_F (by kernel_rfl) rfl ?_
                            refine TS_go 5 ?_
                            replace h := condO h
                            rcases h with ⟨hb216, h⟩ | ⟨hb216, h⟩
                            · refine TS_know 180 (b := true) hb216 (by kernel_rfl) (by kernel_rfl) ?_
                              refine TS_know 181 (b := true) hb216 (by kernel_rfl) (by kernel_rfl) ?_
                              refine TS_go 6 ?_
                              replace h := condO h
                              rcases h with ⟨hb217, h⟩ | ⟨hb217, h⟩
                              · refine TS_know 184 (b := true) hb217 (by kernel_rfl) (by kernel_rfl) ?_
                                refine TS_know 185 (b := true) hb217 (by kernel_rfl) (by kernel_rfl) ?_
                                refine TS_know 178 (b := true) hb217 (by kernel_rfl) (by kernel_rfl) ?_
                                refine TS_T (by kernel_rfl) rfl ?_
                                refine TS_go 3 ?_
                                replace h := bindO h
                                obtain ⟨v218, hv218, h⟩ := h
                                refine TS_call [] (ok_ref29_Get l10 0 8 v218 hv218) (by kernel_rfl) (by kernel_rfl) ?_
                                refine TS_go 4 ?_
                                refine TS_outJ (by kernel_rfl) ?_
                                refine TS_go 1 ?_
                                have ret := Option.some.inj h
                                subst ret
                                exact TS_againB _ ⟨[(0, []), (4, []), (5, []), (6, [])], [(600000, (600000, [])), (6, (6, []))]⟩ rfl (by kernel_rfl) (by kernel_rfl)
                              · refine TS_know 184 (b := false) hb217 (by kernel_rfl) (by kernel_rfl) ?_
                                refine TS_know 185 (b := false) hb217 (by kernel_rfl) (by kernel_rfl) ?_
                                refine TS_know 178 (b := false) hb217 (by kernel_rfl) (by kernel_rfl) ?_
                                refine TS_F (by kernel_rfl) rfl ?_
                                refine TS_go 5 ?_
                                refine TS_nilT 2 600001 39 40 (by kernel_rfl) ?_
                                refine TS_fitU ⟨[(2, []), (3, [])], [(600001, (900000, []))]⟩ (by kernel_rfl) ?_
                                refine TS_go 2 ?_
                                refine TS_outJ (by kernel_rfl) ?_
                                refine TS_go 1 ?_
                                have ret := Option.some.inj h
                                subst ret
                                have hy1q := hy1 _ rfl
                                subst hy1q
                                replace h := (elimR hK1)
                                refine TS_retB rfl (by kernel_rfl) ?_
                                refine TS_go 2 ?_
                                have ret := Option.some.inj h
                                subst ret
                                exact TS_ret (by kernel_rfl) (by kernel_rfl) (by kernel_rfl)
                            · refine TS_know 180 (b := false) hb216 (by kernel_rfl) (by kernel_rfl) ?_
                              refine TS_know 181 (b := false) hb216 (by kernel_rfl) (by kernel_rfl) ?_
                              refine TS_go 6 ?_
                              refine TS_F (by kernel_rfl) rfl ?_
                              refine TS_go 5 ?_
                              refine TS_nilT 2 600001 39 40 (by kernel_rfl) ?_
                              refine TS_fitU ⟨[(2, []), (3, [])], [(600001, (900000, []))]⟩ (by kernel_rfl) ?_
                              refine TS_go 2 ?_
                              refine TS_outJ (by kernel_rfl) ?_
                              refine TS_go 1 ?_
                              have ret := Option.some.inj h
                              subst ret
                              have hy1q := hy1 _ rfl
                              subst hy1q
                              replace h := (elimR hK1)
                              refine TS_retB rfl (by kernel_rfl) ?_
                              refine TS_go 2 ?_
                              have ret := Option.some.inj h
                              subst ret
                              exact TS_ret (by kernel_rfl) (by kernel_rfl) (by kernel_rfl)
                      · refine TS_know 119 (b := false) hb198 (by kernel_rfl) (by kernel_rfl) ?_
                        refine TS_know 120 (b := false) hb198 (by kernel_rfl) (by kernel_rfl) ?_
                        refine TS_go 6 ?_
                        refine TS_F (by kernel_rfl) rfl ?_
                        refine TS_go 5 ?_
                        replace h := condO h
                        rcases h with ⟨hb219, h⟩ | ⟨hb219, h⟩
                        · refine TS_know 143 (b := true) hb219 (by kernel_rfl) (by kernel_rfl) ?_
                          refine TS_know 144 (b := true) hb219 (by kernel_rfl) (by kernel_rfl) ?_
                          refine TS_go 6 ?_
                          replace h := condO h
                          rcases h with ⟨hb220, h⟩ | ⟨hb220, h⟩
                          · refine TS_know 147 (b := true) hb220 (by kernel_rfl) (by kernel_rfl) ?_
                            refine TS_know 148 (b := true) hb220 (by kernel_rfl) (by kernel_rfl) ?_
                            refine TS_know 141 (b := true) hb220 (by kernel_rfl) (by kernel_rfl) ?_
                            refine TS_T (by kernel_rfl) rfl ?_
                            refine TS_go 3 ?_
                            replace h := bindO h
                            obtain ⟨v221, hv221, h⟩ := h
                            refine TS_call [] (ok_ref29_Get l10 2 2 v221 hv221) (by kernel_rfl) (by kernel_rfl) ?_
                            refine TS_go 7 ?_
                            replace h := bindO h
                            obtain ⟨e222, he222, h⟩ := h
                            refine TS_idx (ecI .u8) he222 (by kernel_rfl) (by kernel_rfl) ?_
                            refine TS_go 6 ?_
                            refine TS_draw (by kernel_rfl) ?_
                            refine TD_go 1 ?_
                            replace h := bindO h
                            obtain ⟨l223, hl223, h⟩ := h
                            refine TD_sub (ecI .u8) 1 hl223 (by kernel_rfl) (by kernel_rfl) ?_
                            refine TD_go 1 ?_
                            replace h := bindO h
                            obtain ⟨e224, he224, h⟩ := h
                            refine TD_idx (ecI .u8) he224 (by kernel_rfl) (by kernel_rfl) ?_
                            refine TD_go 3 ?_
                            replace h := bindO h
                            obtain ⟨e225, he225, h⟩ := h
                            refine TD_idx (ecI .u8) he225 (by kernel_rfl) (by kernel_rfl) ?_
                            refine TD_go 3 ?_
                            replace h := bindO h
                            obtain ⟨v226, hv226, h⟩ := h
                            refine TD_call [] (ok_ref29_both l223 (IntKind.wrap .i64 e224) (IntKind.wrap .i64 e225) 0 [0, 0, 0, 0, 0, 0, 0, 0, 0, 0, 0, 0, 0, 0, 0, 0] v226 hv226) (by kernel_rfl) (by kernel_rfl) ?_
                            refine TD_go 6 ?_
                            refine TD_end (by kernel_rfl) ?_
                            refine TS_go 2 ?_
                            replace h := bindO h
                            obtain ⟨v227, hv227, h⟩ := h
                            refine TS_call [] (ok_ref29_Get l10 5 8 v227 hv227) (by kernel_rfl) (by kernel_rfl) ?_
                            refine TS_go 5 ?_
                            exact TS_meet (v226.2, s1.2.2.2, (S_Notice.mk (IntKind.wrap .i64 e8) (IntKind.wrap .u16 v221) 0 0 (S_Destination.mk v226.1.Dst v226.1.Src v227) (IntKind.wrap .i64 e222))) ⟨[(0, []), (4, []), (5, []), (6, []), (9, []), (10, [])], [(600000, (600000, [])), (6, (6, [])), (9, (9, []))]⟩ h (by kernel_rfl) (by kernel_rfl)
                          · refine TS_know 147 (b := false) hb220 (by kernel_rfl) (by kernel_rfl) ?_
                            refine TS_know 148 (b := false) hb220 (by kernel_rfl) (by kernel_rfl) ?_
                            refine TS_know 141 (b := false) hb220 (by kernel_rfl) (by kernel_rfl) ?_
                            refine TS_F (by kernel_rfl) rfl ?_
                            refine TS_go 5 ?_
                            replace h := condO h
                            rcases h with ⟨hb228, h⟩ | ⟨hb228, h⟩
                            · refine TS_know 180 (b := true) hb228 (by kernel_rfl) (by kernel_rfl) ?_
                              refine TS_know 181 (b := true) hb228 (by kernel_rfl) (by kernel_rfl) ?_
                              refine TS_go 6 ?_
                              replace h := condO h
                              rcases h with ⟨hb229, h⟩ | ⟨hb229, h⟩
                              · refine TS_know 184 (b := true) hb229 (by kernel_rfl) (by kernel_rfl) ?_
                                refine TS_know 185 (b := true) hb229 (by kernel_rfl) (by kernel_rfl) ?_
                                refine TS_know 178 (b := true) hb229 (by kernel_rfl) (by kernel_rfl) ?_
                                refine TS_T (by kernel_rfl) rfl ?_
                                refine TS_go 3 ?_
                                replace h := bindO h
                                obtain ⟨v230, hv230, h⟩ := h
                                refine TS_call [] (ok_ref29_Get l10 0 8 v230 hv230) (by kernel_rfl) (by kernel_rfl) ?_
                                refine TS_go 4 ?_
                                refine TS_outJ (by kernel_rfl) ?_
                                refine TS_go 1 ?_
                                have ret := Option.some.inj h
                                subst ret
                                exact TS_againB _ ⟨[(0, []), (4, []), (5, []), (6, [])], [(600000, (600000, [])), (6, (6, []))]⟩ rfl (by kernel_rfl) (by kernel_rfl)
                              · refine TS_know 184 (b := false) hb229 (by kernel_rfl) (by kernel_rfl) ?_
                                refine TS_know 185 (b := false) hb229 (by kernel_rfl) (by kernel_rfl) ?_
                                refine TS_know 178 (b := false) hb229 (by kernel_rfl) (by kernel_rfl) ?_
                                refine TS_F (by kernel_rfl) rfl ?_
                                refine TS_go 5 ?_
                                refine TS_nilT 2 600001 39 40 (by kernel_rfl) ?_
                                refine TS_fitU ⟨[(2, []), (3, [])], [(600001, (900000, []))]⟩ (by kernel_rfl) ?_
                                refine TS_go 2 ?_
                                refine TS_outJ (by kernel_rfl) ?_
                                refine TS_go 1 ?_
                                have ret := Option.some.inj h
                                subst ret
                                have hy1q := hy1 _ rfl
                                subst hy1q
                                replace h := (elimR hK1)
                                refine TS_retB rfl (by kernel_rfl) ?_
                                refine TS_go 2 ?_
                                have ret := Option.some.inj h
                                subst ret
                                exact TS_ret (by kernel_rfl) (by kernel_rfl) (by kernel_rfl)
                            · refine TS_know 180 (b := false) hb228 (by kernel_rfl) (by kernel_rfl) ?_
                              refine TS_know 181 (b := false) hb228 (by kernel_rfl) (by kernel_rfl) ?_
                              refine TS_go 6 ?_
                              refine TS_F (by kernel_rfl) rfl ?_
                              refine TS_go 5 ?_
                              refine TS_nilT 2 600001 39 40 (by kernel_rfl) ?_
                              refine TS_fitU ⟨[(2, []), (3, [])], [(600001, (900000, []))]⟩ (by kernel_rfl) ?_
                              refine TS_go 2 ?_
                              refine TS_outJ (by kernel_rfl) ?_
                              refine TS_go 1 ?_
                              have ret := Option.some.inj h
                              subst ret
                              have hy1q := hy1 _ rfl
                              subst hy1q
                              replace h := (elimR hK1)
                              refine TS_retB rfl (by kernel_rfl) ?_
                              refine TS_go 2 ?_
                              have ret := Option.some.inj h
                              subst ret
                              exact TS_ret (by kernel_rfl) (by kernel_rfl) (by kernel_rfl)
                        · refine TS_know 143 (b := false) hb219 (by kernel_rfl) (by kernel_rfl) ?_
                          refine TS_know 144 (b := false) hb219 (by kernel_rfl) (by kernel_rfl) ?_
                          refine TS_go 6 ?_
                          refine TS_F (by kernel_rfl) rfl ?_
                          refine TS_go 5 ?_
                          replace h := condO h
                          rcases h with ⟨hb231, h⟩ | ⟨hb231, h⟩
                          · refine TS_know 180 (b := true) hb231 (by kernel_rfl) (by kernel_rfl) ?_
                            refine TS_know 181 (b := true) hb231 (by kernel_rfl) (by kernel_rfl) ?_
                            refine TS_go 6 ?_
                            replace h := condO h
                            rcases h with ⟨hb232, h⟩ | ⟨hb232, h⟩
                            · refine TS_know 184 (b := true) hb232 (by kernel_rfl) (by kernel_rfl) ?_
                              refine TS_know 185 (b := true) hb232 (by kernel_rfl) (by kernel_rfl) ?_
                              refine TS_know 178 (b := true) hb232 (by kernel_rfl) (by kernel_rfl) ?_
                              refine TS_T (by kernel_rfl) rfl ?_
                              refine TS_go 3 ?_
                              replace h := bindO h
                              obtain ⟨v233, hv233, h⟩ := h
                              refine TS_call [] (ok_ref29_Get l10 0 8 v233 hv233) (by kernel_rfl) (by kernel_rfl) ?_
                              refine TS_go 4 ?_
                              refine TS_outJ (by kernel_rfl) ?_
                              refine TS_go 1 ?_
                              have ret := Option.some.inj h
                              subst ret
                              exact TS_againB _ ⟨[(0, []), (4, []), (5, []), (6, [])], [(600000, (600000, [])), (6, (6, []))]⟩ rfl (by kernel_rfl) (by kernel_rfl)
                            · refine TS_know 184 (b := false) hb232 (by kernel_rfl) (by kernel_rfl) ?_
                              refine TS_know 185 (b := false) hb232 (by kernel_rfl) (by kernel_rfl) ?_
                              refine TS_know 178 (b := false) hb232 (by kernel_rfl) (by kernel_rfl) ?_
                              refine TS_F (by kernel_rfl) rfl ?_
                              refine TS_go 5 ?_
                              refine TS_nilT 2 600001 39 40 (by kernel_rfl) ?_
                              refine TS_fitU ⟨[(2, []), (3, [])], [(600001, (900000, []))]⟩ (by kernel_rfl) ?_
                              refine TS_go 2 ?_
                              refine TS_outJ (by kernel_rfl) ?_
                              refine TS_go 1 ?_
                              have ret := Option.some.inj h
                              subst ret
                              have hy1q := hy1 _ rfl
                              subst hy1q
                              replace h := (elimR hK1)
                              refine TS_retB rfl (by kernel_rfl) ?_
                              refine TS_go 2 ?_
                              have ret := Option.some.inj h
                              subst ret
                              exact TS_ret (by kernel_rfl) (by kernel_rfl) (by kernel_rfl)
                          · refine TS_know 180 (b := false) hb231 (by kernel_rfl) (by kernel_rfl) ?_
                            refine TS_know 181 (b := false) hb231 (by kernel_rfl) (by kernel_rfl) ?_
                            refine TS_go 6 ?_
                            refine TS_F (by kernel_rfl) rfl ?_
                            refine TS_go 5 ?_
                            refine TS_nilT 2 600001 39 40 (by kernel_rfl) ?_
                            refine TS_fitU ⟨[(2, []), (3, [])], [(600001, (900000, []))]⟩ (by kernel_rfl) ?_
                            refine TS_go 2 ?_
                            refine TS_outJ (by kernel_rfl) ?_
                            refine TS_go 1 ?_
                            have ret := Option.some.inj h
                            subst ret
                            have hy1q := hy1 _ rfl
                            subst hy1q
                            replace h := (elimR hK1)
                            refine TS_retB rfl (by kernel_rfl) ?_
                            refine TS_go 2 ?_
                            have ret := Option.some.inj h
                            subst ret
                            exact TS_ret (by kernel_rfl) (by kernel_rfl) (by kernel_rfl)
                  · refine TS_know 76 (b := false) hb189 (by kernel_rfl) (by kernel_rfl) ?_
                    refine TS_know 77 (b := false) hb189 (by kernel_rfl) (by kernel_rfl) ?_
                    refine TS_go 6 ?_
                    refine TS_F (by kernel_rfl) rfl ?_
                    refine TS_go 5 ?_
                    replace h := condO h
                    rcases h with ⟨hb234, h⟩ | ⟨hb234, h⟩
                    · refine TS_know 119 (b := true) hb234 (by kernel_rfl) (by kernel_rfl) ?_
                      refine TS_know 120 (b := true) hb234 (by kernel_rfl) (by kernel_rfl) ?_
                      refine TS_go 6 ?_
                      replace h := condO h
                      rcases h with ⟨hb235, h⟩ | ⟨hb235, h⟩
                      · refine TS_know 123 (b := true) hb235 (by kernel_rfl) (by kernel_rfl) ?_
                        refine TS_know 124 (b := true) hb235 (by kernel_rfl) (by kernel_rfl) ?_
                        refine TS_know 117 (b := true) hb235 (by kernel_rfl) (by kernel_rfl) ?_
                        refine TS_T (by kernel_rfl) rfl ?_
                        refine TS_draw (by kernel_rfl) ?_
                        refine TD_go 1 ?_
                        replace h := bindO h
                        obtain ⟨l236, hl236, h⟩ := h
                        refine TD_sub (ecI .u8) 1 hl236 (by kernel_rfl) (by kernel_rfl) ?_
                        refine TD_go 1 ?_
                        replace h := bindO h
                        obtain ⟨e237, he237, h⟩ := h
                        refine TD_idx (ecI .u8) he237 (by kernel_rfl) (by kernel_rfl) ?_
                        refine TD_go 3 ?_
                        replace h := bindO h
                        obtain ⟨e238, he238, h⟩ := h
                        refine TD_idx (ecI .u8) he238 (by kernel_rfl) (by kernel_rfl) ?_
                        refine TD_go 3 ?_
                        replace h := bindO h
                        obtain ⟨v239, hv239, h⟩ := h
                        refine TD_call [] (ok_ref29_both l236 (IntKind.wrap .i64 e237) (IntKind.wrap .i64 e238) 0 [0, 0, 0, 0, 0, 0, 0, 0, 0, 0, 0, 0, 0, 0, 0, 0] v239 hv239) (by kernel_rfl) (by kernel_rfl) ?_
                        refine TD_go 6 ?_
                        refine TD_end (by kernel_rfl) ?_
                        refine TS_go 1 ?_
                        exact TS_meet (v239.2, s1.2.2.2, (S_Notice.mk (IntKind.wrap .i64 e8) 0 0 0 v239.1 0)) ⟨[(0, []), (4, []), (5, []), (6, []), (9, []), (10, [])], [(600000, (600000, [])), (6, (6, [])), (9, (9, []))]⟩ h (by kernel_rfl) (by kernel_rfl)
                      · refine TS_know 123 (b := false) hb235 (by kernel_rfl) (by kernel_rfl) ?_
                        refine TS_know 124 (b := false) hb235 (by kernel_rfl) (by kernel_rfl) ?_
                        refine TS_know 117 (b := false) hb235 (by kernel_rfl) (by kernel_rfl) ?_
                        refine TS_F (by kernel_rfl) rfl ?_
                        refine TS_go 5 ?_
                        replace h := condO h
                        rcases h with ⟨hb240, h⟩ | ⟨hb240, h⟩
                        · refine TS_know 143 (b := true) hb240 (by kernel_rfl) (by kernel_rfl) ?_
                          refine TS_know 144 (b := true) hb240 (by kernel_rfl) (by kernel_rfl) ?_
                          refine TS_go 6 ?_
                          replace h := condO h
                          rcases h with ⟨hb241, h⟩ | ⟨hb241, h⟩
                          · refine TS_know 147 (b := true) hb241 (by kernel_rfl) (by kernel_rfl) ?_
                            refine TS_know 148 (b := true) hb241 (by kernel_rfl) (by kernel_rfl) ?_
                            refine TS_know 141 (b := true) hb241 (by kernel_rfl) (by kernel_rfl) ?_
                            refine TS_T (by kernel_rfl) rfl ?_
                            refine TS_go 3 ?_
                            replace h := bindO h
                            obtain ⟨v242, hv242, h⟩ := h
                            refine TS_call [] (ok_ref29_Get l10 2 2 v242 hv242) (by kernel_rfl) (by kernel_rfl) ?_
                            refine TS_go 7 ?_
                            replace h := bindO h
                            obtain ⟨e243, he243, h⟩ := h
                            refine TS_idx (ecI .u8) he243 (by kernel_rfl) (by kernel_rfl) ?_
                            refine TS_go 6 ?_
                            refine TS_draw (by kernel_rfl) ?_
                            refine TD_go 1 ?_
                            replace h := bindO h
                            obtain ⟨l244, hl244, h⟩ := h
                            refine TD_sub (ecI .u8) 1 hl244 (by kernel_rfl) (by kernel_rfl) ?_
                            refine TD_go 1 ?_
                            replace h := bindO h
                            obtain ⟨e245, he245, h⟩ := h
                            refine TD_idx (ecI .u8) he245 (by kernel_rfl) (by kernel_rfl) ?_
                            refine TD_go 3 ?_
                            replace h := bindO h
                            obtain ⟨e246, he246, h⟩ := h
                            refine TD_idx (ecI .u8) he246 (by kernel_rfl) (by kernel_rfl) ?_
                            refine TD_go 3 ?_
                            replace h := bindO h
                            obtain ⟨v247, hv247, h⟩ := h
                            refine TD_call [] (ok_ref29_both l244 (IntKind.wrap .i64 e245) (IntKind.wrap .i64 e246) 0 [0, 0, 0, 0, 0, 0, 0, 0, 0, 0, 0, 0, 0, 0, 0, 0] v247 hv247) (by kernel_rfl) (by kernel_rfl) ?_
                            refine TD_go 6 ?_
                            refine TD_end (by kernel_rfl) ?_
                            refine TS_go 2 ?_
                            replace h := bindO h
                            obtain ⟨v248, hv248, h⟩ := h
                            refine TS_call [] (ok_ref29_Get l10 5 8 v248 hv248) (by kernel_rfl) (by kernel_rfl) ?_
                            refine TS_go 5 ?_
                            exact TS_meet (v247.2, s1.2.2.2, (S_Notice.mk (IntKind.wrap .i64 e8) (IntKind.wrap .u16 v242) 0 0 (S_Destination.mk v247.1.Dst v247.1.Src v248) (IntKind.wrap .i64 e243))) ⟨[(0, []), (4, []), (5, []), (6, []), (9, []), (10, [])], [(600000, (600000, [])), (6, (6, [])), (9, (9, []))]⟩ h (by kernel_rfl) (by kernel_rfl)
                          · refine TS_know 147 (b := false) hb241 (by kernel_rfl) (by kernel_rfl) ?_
                            refine TS_know 148 (b := false) hb241 (by kernel_rfl) (by kernel_rfl) ?_
                            refine TS_know 141 (b := false) hb241 (by kernel_rfl) (by kernel_rfl) ?_
                            refine TS_F (by kernel_rfl) rfl ?_
                            refine TS_go 5 ?_
                            replace h := condO h
                            rcases h with ⟨hb249, h⟩ | ⟨hb249, h⟩
                            · refine TS_know 180 (b := true) hb249 (by kernel_rfl) (by kernel_rfl) ?_
                              refine TS_know 181 (b := true) hb249 (by kernel_rfl) (by kernel_rfl) ?_
                              refine TS_go 6 ?_
                              replace h := condO h
                              rcases h with ⟨hb250, h⟩ | ⟨hb250, h⟩
                              · refine TS_know 184 (b := true) hb250 (by kernel_rfl) (by kernel_rfl) ?_
                                refine TS_know 185 (b := true) hb250 (by kernel_rfl) (by kernel_rfl) ?_
                                refine TS_know 178 (b := true) hb250 (by kernel_rfl) (by kernel_rfl) ?_
                                refine TS_T (by kernel_rfl) rfl ?_
                                refine TS_go 3 ?_
                                replace h := bindO h
                                obtain ⟨v251, hv251, h⟩ := h
                                refine TS_call [] (ok_ref29_Get l10 0 8 v251 hv251) (by kernel_rfl) (by kernel_rfl) ?_
                                refine TS_go 4 ?_
                                refine TS_outJ (by kernel_rfl) ?_
                                refine TS_go 1 ?_
                                have ret := Option.some.inj h
                                subst ret
                                exact TS_againB _ ⟨[(0, []), (4, []), (5, []), (6, [])], [(600000, (600000, [])), (6, (6, []))]⟩ rfl (by kernel_rfl) (by kernel_rfl)
                              · refine TS_know 184 (b := false) hb250 (by kernel_rfl) (by kernel_rfl) ?_
                                refine TS_know 185 (b := false) hb250 (by kernel_rfl) (by kernel_rfl) ?_
                                refine TS_know 178 (b := false) hb250 (by kernel_rfl) (by kernel_rfl) ?_
                                refine TS_F (by kernel_rfl) rfl ?_
                                refine TS_go 5 ?_
                                refine TS_nilT 2 600001 39 40 (by kernel_rfl) ?_
                                refine TS_fitU ⟨[(2, []), (3, [])], [(600001, (900000, []))]⟩ (by kernel_rfl) ?_
                                refine TS_go 2 ?_
                                refine TS_outJ (by kernel_rfl) ?_
                                refine TS_go 1 ?_
                                have ret := Option.some.inj h
                                subst ret
                                have hy1q := hy1 _ rfl
                                subst hy1q
                                replace h := (elimR hK1)
                                refine TS_retB rfl (by kernel_rfl) ?_
                                refine TS_go 2 ?_
                                have ret := Option.some.inj h
                                subst ret
                                exact TS_ret (by kernel_rfl) (by kernel_rfl) (by kernel_rfl)
                            · refine TS_know 180 (b := false) hb249 (by kernel_rfl) (by kernel_rfl) ?_
                              refine TS_know 181 (b := false) hb249 (by kernel_rfl) (by kernel_rfl) ?_
                              refine TS_go 6 ?_
                              refine TS_F (by kernel_rfl) rfl ?_
                              refine TS_go 5 ?_
                              refine TS_nilT 2 600001 39 40 (by kernel_rfl) ?_
                              refine TS_fitU ⟨[(2, []), (3, [])], [(600001, (900000, []))]⟩ (by kernel_rfl) ?_
                              refine TS_go 2 ?_
                              refine TS_outJ (by kernel_rfl) ?_
                              refine TS_go 1 ?_
                              have ret := Option.some.inj h
                              subst ret
                              have hy1q := hy1 _ rfl
                              subst hy1q
                              replace h := (elimR hK1)
                              refine TS_retB rfl (by kernel_rfl) ?_
                              refine TS_go 2 ?_
                              have ret := Option.some.inj h
                              subst ret
                              exact TS_ret (by kernel_rfl) (by kernel_rfl) (by kernel_rfl)
                        · refine TS_know 143 (b := false) hb240 (by kernel_rfl) (by kernel_rfl) ?_
                          refine TS_know 144 (b := false) hb240 (by kernel_rfl) (by kernel_rfl) ?_
                          refine TS_go 6 ?_
                          refine TS_F (by kernel_rfl) rfl ?_
                          refine TS_go 5 ?_
                          replace h := condO h
                          rcases h with ⟨hb252, h⟩ | ⟨hb252, h⟩
                          · refine TS_know 180 (b := true) hb252 (by kernel_rfl) (by kernel_rfl) ?_
                            refine TS_know 181 (b := true) hb252 (by kernel_rfl) (by kernel_rfl) ?_
                            refine TS_go 6 ?_
                            replace h := condO h
                            rcases h with ⟨hb253, h⟩ | ⟨hb253, h⟩
                            · refine TS_know 184 (b := true) hb253 (by kernel_rfl) (by kernel_rfl) ?_
                              refine TS_know 185 (b := true) hb253 (by kernel_rfl) (by kernel_rfl) ?_
                              refine TS_know 178 (b := true) hb253 (by kernel_rfl) (by kernel_rfl) ?_
                              refine TS_T (by kernel_rfl) rfl ?_
                              refine TS_go 3 ?_
                              replace h := bindO h
                              obtain ⟨v254, hv254, h⟩ := h
                              refine TS_call [] (ok_ref29_Get l10 0 8 v254 hv254) (by kernel_rfl) (by kernel_rfl) ?_
                              refine TS_go 4 ?_
                              refine TS_outJ (by kernel_rfl) ?_
                              refine TS_go 1 ?_
                              have ret := Option.some.inj h
                              subst ret
                              exact TS_againB _ ⟨[(0, []), (4, []), (5, []), (6, [])], [(600000, (600000, [])), (6, (6, []))]⟩ rfl (by kernel_rfl) (by kernel_rfl)
                            · refine TS_know 184 (b := false) hb253 (by kernel_rfl) (by kernel_rfl) ?_
                              refine TS_know 185 (b := false) hb253 (by kernel_rfl) (by kernel_rfl) ?_
                              refine TS_know 178 (b := false) hb253 (by kernel_rfl) (by kernel_rfl) ?_
                              refine TS_F (by kernel_rfl) rfl ?_
                              refine TS_go 5 ?_
                              refine TS_nilT 2 600001 39 40 (by kernel_rfl) ?_
                              refine TS_fitU ⟨[(2, []), (3, [])], [(600001, (900000, []))]⟩ (by kernel_rfl) ?_
                              refine TS_go 2 ?_
                              refine TS_outJ (by kernel_rfl) ?_
                              refine TS_go 1 ?_
                              have ret := Option.some.inj h
                              subst ret
                              have hy1q := hy1 _ rfl
                              subst hy1q
                              replace h := (elimR hK1)
                              refine TS_retB rfl (by kernel_rfl) ?_
                              refine TS_go 2 ?_
                              have ret := Option.some.inj h
                              subst ret
                              exact TS_ret (by kernel_rfl) (by kernel_rfl) (by kernel_rfl)
                          · refine TS_know 180 (b := false) hb252 (by kernel_rfl) (by kernel_rfl) ?_
                            refine TS_know 181 (b := false) hb252 (by kernel_rfl) (by kernel_rfl) ?_
                            refine TS_go 6 ?_
                            refine TS_F (by kernel_rfl) rfl ?_
                            refine TS_go 5 ?_
                            refine TS_nilT 2 600001 39 40 (by kernel_rfl) ?_
                            refine TS_fitU ⟨[(2, []), (3, [])], [(600001, (900000, []))]⟩ (by kernel_rfl) ?_
                            refine TS_go 2 ?_
                            refine TS_outJ (by kernel_rfl) ?_
                            refine TS_go 1 ?_
                            have ret := Option.some.inj h
                            subst ret
                            have hy1q := hy1 _ rfl
                            subst hy1q
                            replace h := (elimR hK1)
                            refine TS_retB rfl (by kernel_rfl) ?_
                            refine TS_go 2 ?_
                            have ret := Option.some.inj h
                            subst ret
                            exact TS_ret (by kernel_rfl) (by kernel_rfl) (by kernel_rfl)
                    · refine TS_know 119 (b := false) hb234 (by kernel_rfl) (by kernel_rfl) ?_
                      refine TS_know 120 (b := false) hb234 (by kernel_rfl) (by kernel_rfl) ?_
                      refine TS_go 6 ?_
                      refine TS_F (by kernel_rfl) rfl ?_
                      refine TS_go 5 ?_
                      replace h := condO h
                      rcases h with ⟨hb255, h⟩ | ⟨hb255, h⟩
                      · refine TS_know 143 (b := true) hb255 (by kernel_rfl) (by kernel_rfl) ?_
                        refine TS_know 144 (b := true) hb255 (by kernel_rfl) (by kernel_rfl) ?_
                        refine TS_go 6 ?_
                        replace h := condO h
                        rcases h with ⟨hb256, h⟩ | ⟨hb256, h⟩
                        · refine TS_know 147 (b := true) hb256 (by kernel_rfl) (by kernel_rfl) ?_
                          refine TS_know 148 (b := true) hb256 (by kernel_rfl) (by kernel_rfl) ?_
                          refine TS_know 141 (b := true) hb256 (by kernel_rfl) (by kernel_rfl) ?_
                          refine TS_T (by kernel_rfl) rfl ?_
                          refine TS_go 3 ?_
                          replace h := bindO h
                          obtain ⟨v257, hv257, h⟩ := h
                          refine TS_call [] (ok_ref29_Get l10 2 2 v257 hv257) (by kernel_rfl) (by kernel_rfl) ?_
                          refine TS_go 7 ?_
                          replace h := bindO h
                          obtain ⟨e258, he258, h⟩ := h
                          refine TS_idx (ecI .u8) he258 (by kernel_rfl) (by kernel_rfl) ?_
                          refine TS_go 6 ?_
                          refine TS_draw (by kernel_rfl) ?_
                          refine TD_go 1 ?_
                          replace h := bindO h
                          obtain ⟨l259, hl259, h⟩ := h
                          refine TD_sub (ecI .u8) 1 hl259 (by kernel_rfl) (by kernel_rfl) ?_
                          refine TD_go 1 ?_
                          replace h := bindO h
                          obtain ⟨e260, he260, h⟩ := h
                          refine TD_idx (ecI .u8) he260 (by kernel_rfl) (by kernel_rfl) ?_
                          refine TD_go 3 ?_
                          replace h := bindO h
                          obtain ⟨e261, he261, h⟩ := h
                          refine TD_idx (ecI .u8) he261 (by kernel_rfl) (by kernel_rfl) ?_
                          refine TD_go 3 ?_
                          replace h := bindO h
                          obtain ⟨v262, hv262, h⟩ := h
                          refine TD_call [] (ok_ref29_both l259 (IntKind.wrap .i64 e260) (IntKind.wrap .i64 e261) 0 [0, 0, 0, 0, 0, 0, 0, 0, 0, 0, 0, 0, 0, 0, 0, 0] v262 hv262) (by kernel_rfl) (by kernel_rfl) ?_
                          refine TD_go 6 ?_
                          refine TD_end (by kernel_rfl) ?_
                          refine TS_go 2 ?_
                          replace h := bindO h
                          obtain ⟨v263, hv263, h⟩ := h
                          refine TS_call [] (ok_ref29_Get l10 5 8 v263 hv263) (by kernel_rfl) (by kernel_rfl) ?_
                          refine TS_go 5 ?_
                          exact TS_meet (v262.2, s1.2.2.2, (S_Notice.mk (IntKind.wrap .i64 e8) (IntKind.wrap .u16 v257) 0 0 (S_Destination.mk v262.1.Dst v262.1.Src v263) (IntKind.wrap .i64 e258))) ⟨[(0, []), (4, []), (5, []), (6, []), (9, []), (10, [])], [(600000, (600000, [])), (6, (6, [])), (9, (9, []))]⟩ h (by kernel_rfl) (by kernel_rfl)
                        · refine TS_know 147 (b := false) hb256 (by kernel_rfl) (by kernel_rfl) ?_
                          refine TS_know 148 (b := false) hb256 (by kernel_rfl) (by kernel_rfl) ?_
                          refine TS_know 141 (b := false) hb256 (by kernel_rfl) (by kernel_rfl) ?_
                          refine TS_F (by kernel_rfl) rfl ?_
                          refine TS_go 5 ?_
                          replace h := condO h
                          rcases h with ⟨hb264, h⟩ | ⟨hb264, h⟩
                          · refine TS_know 180 (b := true) hb264 (by kernel_rfl) (by kernel_rfl) ?_
                            refine TS_know 181 (b := true) hb264 (by kernel_rfl) (by kernel_rfl) ?_
                            refine TS_go 6 ?_
                            replace h := condO h
                            rcases h with ⟨hb265, h⟩ | ⟨hb265, h⟩
                            · refine TS_know 184 (b := true) hb265 (by kernel_rfl) (by kernel_rfl) ?_
                              refine TS_know 185 (b := true) hb265 (by kernel_rfl) (by kernel_rfl) ?_
                              refine TS_know 178 (b := true) hb265 (by kernel_rfl) (by kernel_rfl) ?_
                              refine TS_T (by kernel_rfl) rfl ?_
                              refine TS_go 3 ?_
                              replace h := bindO h
                              obtain ⟨v266, hv266, h⟩ := h
                              refine TS_call [] (ok_ref29_Get l10 0 8 v266 hv266) (by kernel_rfl) (by kernel_rfl) ?_
                              refine TS_go 4 ?_
                              refine TS_outJ (by kernel_rfl) ?_
                              refine TS_go 1 ?_
                              have ret := Option.some.inj h
                              subst ret
                              exact TS_againB _ ⟨[(0, []), (4, []), (5, []), (6, [])], [(600000, (600000, [])), (6, (6, []))]⟩ rfl (by kernel_rfl) (by kernel_rfl)
                            · refine TS_know 184 (b := false) hb265 (by kernel_rfl) (by kernel_rfl) ?_
                              refine TS_know 185 (b := false) hb265 (by kernel_rfl) (by kernel_rfl) ?_
                              refine TS_know 178 (b := false) hb265 (by kernel_rfl) (by kernel_rfl) ?_
                              refine TS_F (by kernel_rfl) rfl ?_
                              refine TS_go 5 ?_
                              refine TS_nilT 2 600001 39 40 (by kernel_rfl) ?_
                              refine TS_fitU ⟨[(2, []), (3, [])], [(600001, (900000, []))]⟩ (by kernel_rfl) ?_
                              refine TS_go 2 ?_
                              refine TS_outJ (by kernel_rfl) ?_
                              refine TS_go 1 ?_
                              have ret := Option.some.inj h
                              subst ret
                              have hy1q := hy1 _ rfl
                              subst hy1q
                              replace h := (elimR hK1)
                              refine TS_retB rfl (by kernel_rfl) ?_
                              refine TS_go 2 ?_
                              have ret := Option.some.inj h
                              subst ret
                              exact TS_ret (by kernel_rfl) (by kernel_rfl) (by kernel_rfl)
                          · refine TS_know 180 (b := false) hb264 (by kernel_rfl) (by kernel_rfl) ?_
                            refine TS_know 181 (b := false) hb264 (by kernel_rfl) (by kernel_rfl) ?_
                            refine TS_go 6 ?_
                            refine TS_F (by kernel_rfl) rfl ?_
                            refine TS_go 5 ?_
                            refine TS_nilT 2 600001 39 40 (by kernel_rfl) ?_
                            refine TS_fitU ⟨[(2, []), (3, [])], [(600001, (900000, []))]⟩ (by kernel_rfl) ?_
                            refine TS_go 2 ?_
                            refine TS_outJ (by kernel_rfl) ?_
                            refine TS_go 1 ?_
                            have ret := Option.some.inj h
                            subst ret
                            have hy1q := hy1 _ rfl
                            subst hy1q
                            replace h := (elimR hK1)
                            refine TS_retB rfl (by kernel_rfl) ?_
                            refine TS_go 2 ?_
                            have ret := Option.some.inj h
                            subst ret
                            exact TS_ret (by kernel_rfl) (by kernel_rfl) (by kernel_rfl)
                      · refine TS_know 143 (b := false) hb255 (by kernel_rfl) (by kernel_rfl) ?_
                        refine TS_know 144 (b := false) hb255 (by kernel_rfl) (by kernel_rfl) ?_
                        refine TS_go 6 ?_
                        refine TS_F (by kernel_rfl) rfl ?_
                        refine TS_go 5 ?_
                        replace h := condO h
                        rcases h with ⟨hb267, h⟩ | ⟨hb267, h⟩
                        · refine TS_know 180 (b := true) hb267 (by kernel_rfl) (by kernel_rfl) ?_
                          refine TS_know 181 (b := true) hb267 (by kernel_rfl) (by kernel_rfl) ?_
                          refine TS_go 6 ?_
                          replace h := condO h
                          rcases h with ⟨hb268, h⟩ | ⟨hb268, h⟩
                          · refine TS_know 184 (b := true) hb268 (by kernel_rfl) (by kernel_rfl) ?_
                            refine TS_know 185 (b := true) hb268 (by kernel_rfl) (by kernel_rfl) ?_
                            refine TS_know 178 (b := true) hb268 (by kernel_rfl) (by kernel_rfl) ?_
                            refine TS_T (by kernel_rfl) rfl ?_
                            refine TS_go 3 ?_
                            replace h := bindO h
                            obtain ⟨v269, hv269, h⟩ := h
                            refine TS_call [] (ok_ref29_Get l10 0 8 v269 hv269) (by kernel_rfl) (by kernel_rfl) ?_
                            refine TS_go 4 ?_
                            refine TS_outJ (by kernel_rfl) ?_
                            refine TS_go 1 ?_
                            have ret := Option.some.inj h
                            subst ret
                            exact TS_againB _ ⟨[(0, []), (4, []), (5, []), (6, [])], [(600000, (600000, [])), (6, (6, []))]⟩ rfl (by kernel_rfl) (by kernel_rfl)
                          · refine TS_know 184 (b := false) hb268 (by kernel_rfl) (by kernel_rfl) ?_
                            refine TS_know 185 (b := false) hb268 (by kernel_rfl) (by kernel_rfl) ?_
                            refine TS_know 178 (b := false) hb268 (by kernel_rfl) (by kernel_rfl) ?_
                            refine TS_F (by kernel_rfl) rfl ?_
                            refine TS_go 5 ?_
                            refine TS_nilT 2 600001 39 40 (by kernel_rfl) ?_
                            refine TS_fitU ⟨[(2, []), (3, [])], [(600001, (900000, []))]⟩ (by kernel_rfl) ?_
                            refine TS_go 2 ?_
                            refine TS_outJ (by kernel_rfl) ?_
                            refine TS_go 1 ?_
                            have ret := Option.some.inj h
                            subst ret
                            have hy1q := hy1 _ rfl
                            subst hy1q
                            replace h := (elimR hK1)
                            refine TS_retB rfl (by kernel_rfl) ?_
                            refine TS_go 2 ?_
                            have ret := Option.some.inj h
                            subst ret
                            exact TS_ret (by kernel_rfl) (by kernel_rfl) (by kernel_rfl)
                        · refine TS_know 180 (b := false) hb267 (by kernel_rfl) (by kernel_rfl) ?_
                          refine TS_know 181 (b := false) hb267 (by kernel_rfl) (by kernel_rfl) ?_
                          refine TS_go 6 ?_
                          refine TS_F (by kernel_rfl) rfl ?_
                          refine TS_go 5 ?_
                          refine TS_nilT 2 600001 39 40 (by kernel_rfl) ?_
                          refine TS_fitU ⟨[(2, []), (3, [])], [(600001, (900000, []))]⟩ (by kernel_rfl) ?_
                          refine TS_go 2 ?_
                          refine TS_outJ (by kernel_rfl) ?_
                          refine TS_go 1 ?_
                          have ret := Option.some.inj h
                          subst ret
                          have hy1q := hy1 _ rfl
                          subst hy1q
                          replace h := (elimR hK1)
                          refine TS_retB rfl (by kernel_rfl) ?_
                          refine TS_go 2 ?_
                          have ret := Option.some.inj h
                          subst ret
                          exact TS_ret (by kernel_rfl) (by kernel_rfl) (by kernel_rfl)
              · refine TS_know 61 (b := false) hb185 (by kernel_rfl) (by kernel_rfl) ?_
                refine TS_know 62 (b := false) hb185 (by kernel_rfl) (by kernel_rfl) ?_
                refine TS_go 6 ?_
                refine TS_F (by kernel_rfl) rfl ?_
                refine TS_go 5 ?_
                replace h := condO h
                rcases h with ⟨hb270, h⟩ | ⟨hb270, h⟩
                · refine TS_know 76 (b := true) hb270 (by kernel_rfl) (by kernel_rfl) ?_
                  refine TS_know 77 (b := true) hb270 (by kernel_rfl) (by kernel_rfl) ?_
                  refine TS_go 6 ?_
                  replace h := condO h
                  rcases h with ⟨hb271, h⟩ | ⟨hb271, h⟩
                  · refine TS_know 80 (b := true) hb271 (by kernel_rfl) (by kernel_rfl) ?_
                    refine TS_know 81 (b := true) hb271 (by kernel_rfl) (by kernel_rfl) ?_
                    refine TS_know 74 (b := true) hb271 (by kernel_rfl) (by kernel_rfl) ?_
                    refine TS_T (by kernel_rfl) rfl ?_
                    refine TS_go 3 ?_
                    replace h := bindO h
                    obtain ⟨v272, hv272, h⟩ := h
                    refine TS_call [] (ok_ref29_Get l10 3 2 v272 hv272) (by kernel_rfl) (by kernel_rfl) ?_
                    refine TS_go 7 ?_
                    replace h := bindO h
                    obtain ⟨v273, hv273, h⟩ := h
                    refine TS_call [] (ok_ref29_Get l10 5 2 v273 hv273) (by kernel_rfl) (by kernel_rfl) ?_
                    refine TS_go 5 ?_
                    refine TS_draw (by kernel_rfl) ?_
                    refine TD_go 1 ?_
                    replace h := bindO h
                    obtain ⟨l274, hl274, h⟩ := h
                    refine TD_sub (ecI .u8) 1 hl274 (by kernel_rfl) (by kernel_rfl) ?_
                    refine TD_go 1 ?_
                    replace h := bindO h
                    obtain ⟨e275, he275, h⟩ := h
                    refine TD_idx (ecI .u8) he275 (by kernel_rfl) (by kernel_rfl) ?_
                    refine TD_go 3 ?_
                    replace h := bindO h
                    obtain ⟨e276, he276, h⟩ := h
                    refine TD_idx (ecI .u8) he276 (by kernel_rfl) (by kernel_rfl) ?_
                    refine TD_go 3 ?_
                    replace h := bindO h
                    obtain ⟨e277, he277, h⟩ := h
                    refine TD_idx (ecI .u8) he277 (by kernel_rfl) (by kernel_rfl) ?_
                    refine TD_go 3 ?_
                    replace h := bindO h
                    obtain ⟨v278, hv278, h⟩ := h
                    refine TD_call [] (ok_ref29_both l274 (IntKind.wrap .i64 e275) (IntKind.wrap .i64 e276) (IntKind.wrap .i64 e277) s1.2.2.2 v278 hv278) (by kernel_rfl) (by kernel_rfl) ?_
                    refine TD_go 6 ?_
                    refine TD_end (by kernel_rfl) ?_
                    refine TS_go 15 ?_
                    exact TS_meet (v278.2, v278.1.Dst.IP, (S_Notice.mk (IntKind.wrap .i64 e8) (IntKind.wrap .u16 v272) (IntKind.wrap .i64 v273) 0 (S_Destination.mk v278.1.Dst v278.1.Src s1.2.2.1) 0)) ⟨[(0, []), (4, []), (5, []), (6, []), (9, []), (10, [])], [(600000, (600000, [])), (6, (6, [])), (9, (9, []))]⟩ h (by kernel_rfl) (by kernel_rfl)
                  · refine TS_know 80 (b := false) hb271 (by kernel_rfl) (by kernel_rfl) ?_
                    refine TS_know 81 (b := false) hb271 (by kernel_rfl) (by kernel_rfl) ?_
                    refine TS_know 74 (b := false) hb271 (by kernel_rfl) (by kernel_rfl) ?_
                    refine TS_F (by kernel_rfl) rfl ?_
                    refine TS_go 5 ?_
                    replace h := condO h
                    rcases h with ⟨hb279, h⟩ | ⟨hb279, h⟩
                    · refine TS_know 119 (b := true) hb279 (by kernel_rfl) (by kernel_rfl) ?_
                      refine TS_know 120 (b := true) hb279 (by kernel_rfl) (by kernel_rfl) ?_
                      refine TS_go 6 ?_
                      replace h := condO h
                      rcases h with ⟨hb280, h⟩ | ⟨hb280, h⟩
                      · refine TS_know 123 (b := true) hb280 (by kernel_rfl) (by kernel_rfl) ?_
                        refine TS_know 124 (b := true) hb280 (by kernel_rfl) (by kernel_rfl) ?_
                        refine TS_know 117 (b := true) hb280 (by kernel_rfl) (by kernel_rfl) ?_
                        refine TS_T (by kernel_rfl) rfl ?_
                        refine TS_draw (by kernel_rfl) ?_
                        refine TD_go 1 ?_
                        replace h := bindO h
                        obtain ⟨l281, hl281, h⟩ := h
                        refine TD_sub (ecI .u8) 1 hl281 (by kernel_rfl) (by kernel_rfl) ?_
                        refine TD_go 1 ?_
                        replace h := bindO h
                        obtain ⟨e282, he282, h⟩ := h
                        refine TD_idx (ecI .u8) he282 (by kernel_rfl) (by kernel_rfl) ?_
                        refine TD_go 3 ?_
                        replace h := bindO h
                        obtain ⟨e283, he283, h⟩ := h
                        refine TD_idx (ecI .u8) he283 (by kernel_rfl) (by kernel_rfl) ?_
                        refine TD_go 3 ?_
                        replace h := bindO h
                        obtain ⟨v284, hv284, h⟩ := h
                        refine TD_call [] (ok_ref29_both l281 (IntKind.wrap .i64 e282) (IntKind.wrap .i64 e283) 0 [0, 0, 0, 0, 0, 0, 0, 0, 0, 0, 0, 0, 0, 0, 0, 0] v284 hv284) (by kernel_rfl) (by kernel_rfl) ?_
                        refine TD_go 6 ?_
                        refine TD_end (by kernel_rfl) ?_
                        refine TS_go 1 ?_
                        exact TS_meet (v284.2, s1.2.2.2, (S_Notice.mk (IntKind.wrap .i64 e8) 0 0 0 v284.1 0)) ⟨[(0, []), (4, []), (5, []), (6, []), (9, []), (10, [])], [(600000, (600000, [])), (6, (6, [])), (9, (9, []))]⟩ h (by kernel_rfl) (by kernel_rfl)
                      · refine TS_know 123 (b := false) hb280 (by kernel_rfl) (by kernel_rfl) ?_
                        refine TS_know 124 (b := false) hb280 (by kernel_rfl) (by kernel_rfl) ?_
                        refine TS_know 117 (b := false) hb280 (by kernel_rfl) (by kernel_rfl) ?_
                        refine TS_F (by kernel_rfl) rfl ?_
                        refine TS_go 5 ?_
                        replace h := condO h
                        rcases h with ⟨hb285, h⟩ | ⟨hb285, h⟩
                        · refine TS_know 143 (b := true) hb285 (by kernel_rfl) (by kernel_rfl) ?_
                          refine TS_know 144 (b := true) hb285 (by kernel_rfl) (by kernel_rfl) ?_
                          refine TS_go 6 ?_
                          replace h := condO h
                          rcases h with ⟨hb286, h⟩ | ⟨hb286, h⟩
                          · refine TS_know 147 (b := true) hb286 (by kernel_rfl) (by kernel_rfl) ?_
                            refine TS_know 148 (b := true) hb286 (by kernel_rfl) (by kernel_rfl) ?_
                            refine TS_know 141 (b := true) hb286 (by kernel_rfl) (by kernel_rfl) ?_
                            refine TS_T (by kernel_rfl) rfl ?_
                            refine TS_go 3 ?_
                            replace h := bindO h
                            obtain ⟨v287, hv287, h⟩ := h
                            refine TS_call [] (ok_ref29_Get l10 2 2 v287 hv287) (by kernel_rfl) (by kernel_rfl) ?_
                            refine TS_go 7 ?_
                            replace h := bindO h
                            obtain ⟨e288, he288, h⟩ := h
                            refine TS_idx (ecI .u8) he288 (by kernel_rfl) (by kernel_rfl) ?_
                            refine TS_go 6 ?_
                            refine TS_draw (by kernel_rfl) ?_
                            refine TD_go 1 ?_
                            replace h := bindO h
                            obtain ⟨l289, hl289, h⟩ := h
                            refine TD_sub (ecI .u8) 1 hl289 (by kernel_rfl) (by kernel_rfl) ?_
                            refine TD_go 1 ?_
                            replace h := bindO h
                            obtain ⟨e290, he290, h⟩ := h
                            refine TD_idx (ecI .u8) he290 (by kernel_rfl) (by kernel_rfl) ?_
                            refine TD_go 3 ?_
                            replace h := bindO h
                            obtain ⟨e291, he291, h⟩ := h
                            refine TD_idx (ecI .u8) he291 (by kernel_rfl) (by kernel_rfl) ?_
                            refine TD_go 3 ?_
                            replace h := bindO h
                            obtain ⟨v292, hv292, h⟩ := h
                            refine TD_call [] (ok_ref29_both l289 (IntKind.wrap .i64 e290) (IntKind.wrap .i64 e291) 0 [0, 0, 0, 0, 0, 0, 0, 0, 0, 0, 0, 0, 0, 0, 0, 0] v292 hv292) (by kernel_rfl) (by kernel_rfl) ?_
                            refine TD_go 6 ?_
                            refine TD_end (by kernel_rfl) ?_
                            refine TS_go 2 ?_
                            replace h := bindO h
                            obtain ⟨v293, hv293, h⟩ := h
                            refine TS_call [] (ok_ref29_Get l10 5 8 v293 hv293) (by kernel_rfl) (by kernel_rfl) ?_
                            refine TS_go 5 ?_
                            exact TS_meet (v292.2, s1.2.2.2, (S_Notice.mk (IntKind.wrap .i64 e8) (IntKind.wrap .u16 v287) 0 0 (S_Destination.mk v292.1.Dst v292.1.Src v293) (IntKind.wrap .i64 e288))) ⟨[(0, []), (4, []), (5, []), (6, []), (9, []), (10, [])], [(600000, (600000, [])), (6, (6, [])), (9, (9, []))]⟩ h (by kernel_rfl) (by kernel_rfl)
                          · refine TS_know 147 (b := false) hb286 (by kernel_rfl) (by kernel_rfl) ?_
                            refine TS_know 148 (b := false) hb286 (by kernel_rfl) (by kernel_rfl) ?_
                            refine TS_know 141 (b := false) hb286 (by kernel_rfl) (by kernel_rfl) ?_
                            refine TS_F (by kernel_rfl) rfl ?_
                            refine TS_go 5 ?_
                            replace h := condO h
                            rcases h with ⟨hb294, h⟩ | ⟨hb294, h⟩
                            · refine TS_know 180 (b := true) hb294 (by kernel_rfl) (by kernel_rfl) ?_
                              refine TS_know 181 (b := true) hb294 (by kernel_rfl) (by kernel_rfl) ?_
                              refine TS_go 6 ?_
                              replace h := condO h
                              rcases h with ⟨hb295, h⟩ | ⟨hb295, h⟩
                              · refine TS_know 184 (b := true) hb295 (by kernel_rfl) (by kernel_rfl) ?_
                                refine TS_know 185 (b := true) hb295 (by kernel_rfl) (by kernel_rfl) ?_
                                refine TS_know 178 (b := true) hb295 (by kernel_rfl) (by kernel_rfl) ?_
                                refine TS_T (by kernel_rfl) rfl ?_
                                refine TS_go 3 ?_
                                replace h := bindO h
                                obtain ⟨v296, hv296, h⟩ := h
                                refine TS_call [] (ok_ref29_Get l10 0 8 v296 hv296) (by kernel_rfl) (by kernel_rfl) ?_
                                refine TS_go 4 ?_
                                refine TS_outJ (by kernel_rfl) ?_
                                refine TS_go 1 ?_
                                have ret := Option.some.inj h
                                subst ret
                                exact TS_againB _ ⟨[(0, []), (4, []), (5, []), (6, [])], [(600000, (600000, [])), (6, (6, []))]⟩ rfl (by kernel_rfl) (by kernel_rfl)
                              · refine TS_know 184 (b := false) hb295 (by kernel_rfl) (by kernel_rfl) ?_
                                refine TS_know 185 (b := false) hb295 (by kernel_rfl) (by kernel_rfl) ?_
                                refine TS_know 178 (b := false) hb295 (by kernel_rfl) (by kernel_rfl) ?_
                                refine TS_F (by kernel_rfl) rfl ?_
                                refine TS_go 5 ?_
                                refine TS_nilT 2 600001 39 40 (by kernel_rfl) ?_
                                refine TS_fitU ⟨[(2, []), (3, [])], [(600001, (900000, []))]⟩ (by kernel_rfl) ?_
                                refine TS_go 2 ?_
                                refine TS_outJ (by kernel_rfl) ?_
                                refine TS_go 1 ?_
                                have ret := Option.some.inj h
                                subst ret
                                have hy1q := hy1 _ rfl
                                subst hy1q
                                replace h := (elimR hK1)
                                refine TS_retB rfl (by kernel_rfl) ?_
                                refine TS_go 2 ?_
                                have ret := Option.some.inj h
                                subst ret
                                exact TS_ret (by kernel_rfl) (by kernel_rfl) (by kernel_rfl)
                            · refine TS_know 180 (b := false) hb294 (by kernel_rfl) (by kernel_rfl) ?_
                              refine TS_know 181 (b := false) hb294 (by kernel_rfl) (by kernel_rfl) ?_
                              refine TS_go 6 ?_
                              refine TS_F (by kernel_rfl) rfl ?_
                              refine TS_go 5 ?_
                              refine TS_nilT 2 600001 39 40 (by kernel_rfl) ?_
                              refine TS_fitU ⟨[(2, []), (3, [])], [(600001, (900000, []))]⟩ (by kernel_rfl) ?_
                              refine TS_go 2 ?_
                              refine TS_outJ (by kernel_rfl) ?_
                              refine TS_go 1 ?_
                              have ret := Option.some.inj h
                              subst ret
                              have hy1q := hy1 _ rfl
                              subst hy1q
                              replace h := (elimR hK1)
                              refine TS_retB rfl (by kernel_rfl) ?_
                              refine TS_go 2 ?_
                              have ret := Option.some.inj h
                              subst ret
                              exact TS_ret (by kernel_rfl) (by kernel_rfl) (by kernel_rfl)
                        · refine TS_know 143 (b := false) hb285 (by kernel_rfl) (by kernel_rfl) ?_
                          refine TS_know 144 (b := false) hb285 (by kernel_rfl) (by kernel_rfl) ?_
                          refine TS_go 6 ?_
                          refine TS_F (by kernel_rfl) rfl ?_
                          refine TS_go 5 ?_
                          replace h := condO h
                          rcases h with ⟨hb297, h⟩ | ⟨hb297, h⟩
                          · refine TS_know 180 (b := true) hb297 (by kernel_rfl) (by kernel_rfl) ?_
                            refine TS_know 181 (b := true) hb297 (by kernel_rfl) (by kernel_rfl) ?_
                            refine TS_go 6 ?_
                            replace h := condO h
                            rcases h with ⟨hb298, h⟩ | ⟨hb298, h⟩
                            · refine TS_know 184 (b := true) hb298 (by kernel_rfl) (by kernel_rfl) ?_
                              refine TS_know 185 (b := true) hb298 (by kernel_rfl) (by kernel_rfl) ?_
                              refine TS_know 178 (b := true) hb298 (by kernel_rfl) (by kernel_rfl) ?_
                              refine TS_T (by kernel_rfl) rfl ?_
                              refine TS_go 3 ?_
                              replace h := bindO h
                              obtain ⟨v299, hv299, h⟩ := h
                              refine TS_call [] (ok_ref29_Get l10 0 8 v299 hv299) (by kernel_rfl) (by kernel_rfl) ?_
                              refine TS_go 4 ?_
                              refine TS_outJ (by kernel_rfl) ?_
                              refine TS_go 1 ?_
                              have ret := Option.some.inj h
                              subst ret
                              exact TS_againB _ ⟨[(0, []), (4, []), (5, []), (6, [])], [(600000, (600000, [])), (6, (6, []))]⟩ rfl (by kernel_rfl) (by kernel_rfl)
                            · refine TS_know 184 (b := false) hb298 (by kernel_rfl) (by kernel_rfl) ?_
                              refine TS_know 185 (b := false) hb298 (by kernel_rfl) (by kernel_rfl) ?_
                              refine TS_know 178 (b := false) hb298 (by kernel_rfl) (by kernel_rfl) ?_
                              refine TS_F (by kernel_rfl) rfl ?_
                              refine TS_go 5 ?_
                              refine TS_nilT 2 600001 39 40 (by kernel_rfl) ?_
                              refine TS_fitU ⟨[(2, []), (3, [])], [(600001, (900000, []))]⟩ (by kernel_rfl) ?_
                              refine TS_go 2 ?_
                              refine TS_outJ (by kernel_rfl) ?_
                              refine TS_go 1 ?_
                              have ret := Option.some.inj h
                              subst ret
                              have hy1q := hy1 _ rfl
                              subst hy1q
                              replace h := (elimR hK1)
                              refine TS_retB rfl (by kernel_rfl) ?_
                              refine TS_go 2 ?_
                              have ret := Option.some.inj h
                              subst ret
                              exact TS_ret (by kernel_rfl) (by kernel_rfl) (by kernel_rfl)
                          · refine TS_know 180 (b := false) hb297 (by kernel_rfl) (by kernel_rfl) ?_
                            refine TS_know 181 (b := false) hb297 (by kernel_rfl) (by kernel_rfl) ?_
                            refine TS_go 6 ?_
                            refine TS_F (by kernel_rfl) rfl ?_
                            refine TS_go 5 ?_
                            refine TS_nilT 2 600001 39 40 (by kernel_rfl) ?_
                            refine TS_fitU ⟨[(2, []), (3, [])], [(600001, (900000, []))]⟩ (by kernel_rfl) ?_
                            refine TS_go 2 ?_
                            refine TS_outJ (by kernel_rfl) ?_
                            refine TS_go 1 ?_
                            have ret := Option.some.inj h
                            subst ret
                            have hy1q := hy1 _ rfl
                            subst hy1q
                            replace h := (elimR hK1)
                            refine TS_retB rfl (by kernel_rfl) ?_
                            refine TS_go 2 ?_
                            have ret := Option.some.inj h
                            subst ret
                            exact TS_ret (by kernel_rfl) (by kernel_rfl) (by kernel_rfl)
                    · refine TS_know 119 (b := false) hb279 (by kernel_rfl) (by kernel_rfl) ?_
                      refine TS_know 120 (b := false) hb279 (by kernel_rfl) (by kernel_rfl) ?_
                      refine TS_go 6 ?_
                      refine TS_F (by kernel_rfl) rfl ?_
                      refine TS_go 5 ?_
                      replace h := condO h
                      rcases h with ⟨hb300, h⟩ | ⟨hb300, h⟩
                      · refine TS_know 143 (b := true) hb300 (by kernel_rfl) (by kernel_rfl) ?_
                        refine TS_know 144 (b := true) hb300 (by kernel_rfl) (by kernel_rfl) ?_
                        refine TS_go 6 ?_
                        replace h := condO h
                        rcases h with ⟨hb301, h⟩ | ⟨hb301, h⟩
                        · refine TS_know 147 (b := true) hb301 (by kernel_rfl) (by kernel_rfl) ?_
                          refine TS_know 148 (b := true) hb301 (by kernel_rfl) (by kernel_rfl) ?_
                          refine TS_know 141 (b := true) hb301 (by kernel_rfl) (by kernel_rfl) ?_
                          refine TS_T (by kernel_rfl) rfl ?_
                          refine TS_go 3 ?_
                          replace h := bindO h
                          obtain ⟨v302, hv302, h⟩ := h
                          refine TS_call [] (ok_ref29_Get l10 2 2 v302 hv302) (by kernel_rfl) (by kernel_rfl) ?_
                          refine TS_go 7 ?_
                          replace h := bindO h
                          obtain ⟨e303, he303, h⟩ := h
                          refine TS_idx (ecI .u8) he303 (by kernel_rfl) (by kernel_rfl) ?_
                          refine TS_go 6 ?_
                          refine TS_draw (by kernel_rfl) ?_
                          refine TD_go 1 ?_
                          replace h := bindO h
                          obtain ⟨l304, hl304, h⟩ := h
                          refine TD_sub (ecI .u8) 1 hl304 (by kernel_rfl) (by kernel_rfl) ?_
                          refine TD_go 1 ?_
                          replace h := bindO h
                          obtain ⟨e305, he305, h⟩ := h
                          refine TD_idx (ecI .u8) he305 (by kernel_rfl) (by kernel_rfl) ?_
                          refine TD_go 3 ?_
                          replace h := bindO h
                          obtain ⟨e306, he306, h⟩ := h
                          refine TD_idx (ecI .u8) he306 (by kernel_rfl) (by kernel_rfl) ?_
                          refine TD_go 3 ?_
                          replace h := bindO h
                          obtain ⟨v307, hv307, h⟩ := h
                          refine TD_call [] (ok_ref29_both l304 (IntKind.wrap .i64 e305) (IntKind.wrap .i64 e306) 0 [0, 0, 0, 0, 0, 0, 0, 0, 0, 0, 0, 0, 0, 0, 0, 0] v307 hv307) (by kernel_rfl) (by kernel_rfl) ?_
                          refine TD_go 6 ?_
                          refine TD_end (by kernel_rfl) ?_
                          refine TS_go 2 ?_
                          replace h := bindO h
                          obtain ⟨v308, hv308, h⟩ := h
                          refine TS_call [] (ok_ref29_Get l10 5 8 v308 hv308) (by kernel_rfl) (by kernel_rfl) ?_
                          refine TS_go 5 ?_
                          exact TS_meet (v307.2, s1.2.2.2, (S_Notice.mk (IntKind.wrap .i64 e8) (IntKind.wrap .u16 v302) 0 0 (S_Destination.mk v307.1.Dst v307.1.Src v308) (IntKind.wrap .i64 e303))) ⟨[(0, []), (4, []), (5, []), (6, []), (9, []), (10, [])], [(600000, (600000, [])), (6, (6, [])), (9, (9, []))]⟩ h (by kernel_rfl) (by kernel_rfl)
                        · refine TS_know 147 (b := false) hb301 (by kernel_rfl) (by kernel_rfl) ?_
                          refine TS_know 148 (b := false) hb301 (by kernel_rfl) (by kernel_rfl) ?_
                          refine TS_know 141 (b := false) hb301 (by kernel_rfl) (by kernel_rfl) ?_
                          refine TS_F (by kernel_rfl) rfl ?_
                          refine TS_go 5 ?_
                          replace h := condO h
                          rcases h with ⟨hb309, h⟩ | ⟨hb309, h⟩
                          · refine TS_know 180 (b := true) hb309 (by kernel_rfl) (by kernel_rfl) ?_
                            refine TS_know 181 (b := true) hb309 (by kernel_rfl) (by kernel_rfl) ?_
                            refine TS_go 6 ?_
                            replace h := condO h
                            rcases h with ⟨hb310, h⟩ | ⟨hb310, h⟩
                            · refine TS_know 184 (b := true) hb310 (by kernel_rfl) (by kernel_rfl) ?_
                              refine TS_know 185 (b := true) hb310 (by kernel_rfl) (by kernel_rfl) ?_
                              refine TS_know 178 (b := true) hb310 (by kernel_rfl) (by kernel_rfl) ?_
                              refine TS_T (by kernel_rfl) rfl ?_
                              refine TS_go 3 ?_
                              replace h := bindO h
                              obtain ⟨v311, hv311, h⟩ := h
                              refine TS_call [] (ok_ref29_Get l10 0 8 v311 hv311) (by kernel_rfl) (by kernel_rfl) ?_
                              refine TS_go 4 ?_
                              refine TS_outJ (by kernel_rfl) ?_
                              refine TS_go 1 ?_
                              have ret := Option.some.inj h
                              subst ret
                              exact TS_againB _ ⟨[(0, []), (4, []), (5, []), (6, [])], [(600000, (600000, [])), (6, (6, []))]⟩ rfl (by kernel_rfl) (by kernel_rfl)
                            · refine TS_know 184 (b := false) hb310 (by kernel_rfl) (by kernel_rfl) ?_
                              refine TS_know 185 (b := false) hb310 (by kernel_rfl) (by kernel_rfl) ?_
                              refine TS_know 178 (b := false) hb310 (by kernel_rfl) (by kernel_rfl) ?_
                              refine TS_F (by kernel_rfl) rfl ?_
                              refine TS_go 5 ?_
                              refine TS_nilT 2 600001 39 40 (by kernel_rfl) ?_
                              refine TS_fitU ⟨[(2, []), (3, [])], [(600001, (900000, []))]⟩ (by kernel_rfl) ?_
                              refine TS_go 2 ?_
                              refine TS_outJ (by kernel_rfl) ?_
                              refine TS_go 1 ?_
                              have ret := Option.some.inj h
                              subst ret
                              have hy1q := hy1 _ rfl
                              subst hy1q
                              replace h := (elimR hK1)
                              refine TS_retB rfl (by kernel_rfl) ?_
                              refine TS_go 2 ?_
                              have ret := Option.some.inj h
                              subst ret
                              exact TS_ret (by kernel_rfl) (by kernel_rfl) (by kernel_rfl)
                          · refine TS_know 180 (b := false) hb309 (by kernel_rfl) (by kernel_rfl) ?_
                            refine TS_know 181 (b := false) hb309 (by kernel_rfl) (by kernel_rfl) ?_
                            refine TS_go 6 ?_
                            refine TS_F (by kernel_rfl) rfl ?_
                            refine TS_go 5 ?_
                            refine TS_nilT 2 600001 39 40 (by kernel_rfl) ?_
                            refine TS_fitU ⟨[(2, []), (3, [])], [(600001, (900000, []))]⟩ (by kernel_rfl) ?_
                            refine TS_go 2 ?_
                            refine TS_outJ (by kernel_rfl) ?_
                            refine TS_go 1 ?_
                            have ret := Option.some.inj h
                            subst ret
                            have hy1q := hy1 _ rfl
                            subst hy1q
                            replace h := (elimR hK1)
                            refine TS_retB rfl (by kernel_rfl) ?_
                            refine TS_go 2 ?_
                            have ret := Option.some.inj h
                            subst ret
                            exact TS_ret (by kernel_rfl) (by kernel_rfl) (by kernel_rfl)
                      · refine TS_know 143 (b := false) hb300 (by kernel_rfl) (by kernel_rfl) ?_
                        refine TS_know 144 (b := false) hb300 (by kernel_rfl) (by kernel_rfl) ?_
                        refine TS_go 6 ?_
                        refine TS_F (by kernel_rfl) rfl ?_
                        refine TS_go 5 ?_
                        replace h := condO h
                        rcases h with ⟨hb312, h⟩ | ⟨hb312, h⟩
                        · refine TS_know 180 (b := true) hb312 (by kernel_rfl) (by kernel_rfl) ?_
                          refine TS_know 181 (b := true) hb312 (by kernel_rfl) (by kernel_rfl) ?_
                          refine TS_go 6 ?_
                          replace h := condO h
                          rcases h with ⟨hb313, h⟩ | ⟨hb313, h⟩
                          · refine TS_know 184 (b := true) hb313 (by kernel_rfl) (by kernel_rfl) ?_
                            refine TS_know 185 (b := true) hb313 (by kernel_rfl) (by kernel_rfl) ?_
                            refine TS_know 178 (b := true) hb313 (by kernel_rfl) (by kernel_rfl) ?_
                            refine TS_T (by kernel_rfl) rfl ?_
                            refine TS_go 3 ?_
                            replace h := bindO h
                            obtain ⟨v314, hv314, h⟩ := h
                            refine TS_call [] (ok_ref29_Get l10 0 8 v314 hv314) (by kernel_rfl) (by kernel_rfl) ?_
                            refine TS_go 4 ?_
                            refine TS_outJ (by kernel_rfl) ?_
                            refine TS_go 1 ?_
                            have ret := Option.some.inj h
                            subst ret
                            exact TS_againB _ ⟨[(0, []), (4, []), (5, []), (6, [])], [(600000, (600000, [])), (6, (6, []))]⟩ rfl (by kernel_rfl) (by kernel_rfl)
                          · refine TS_know 184 (b := false) hb313 (by kernel_rfl) (by kernel_rfl) ?_
                            refine TS_know 185 (b := false) hb313 (by kernel_rfl) (by kernel_rfl) ?_
                            refine TS_know 178 (b := false) hb313 (by kernel_rfl) (by kernel_rfl) ?_
                            refine TS_F (by kernel_rfl) rfl ?_
                            refine TS_go 5 ?_
                            refine TS_nilT 2 600001 39 40 (by kernel_rfl) ?_
                            refine TS_fitU ⟨[(2, []), (3, [])], [(600001, (900000, []))]⟩ (by kernel_rfl) ?_
                            refine TS_go 2 ?_
                            refine TS_outJ (by kernel_rfl) ?_
                            refine TS_go 1 ?_
                            have ret := Option.some.inj h
                            subst ret
                            have hy1q := hy1 _ rfl
                            subst hy1q
                            replace h := (elimR hK1)
                            refine TS_retB rfl (by kernel_rfl) ?_
                            refine TS_go 2 ?_
                            have ret := Option.some.inj h
                            subst ret
                            exact TS_ret (by kernel_rfl) (by kernel_rfl) (by kernel_rfl)
                        · refine TS_know 180 (b := false) hb312 (by kernel_rfl) (by kernel_rfl) ?_
                          refine TS_know 181 (b := false) hb312 (by kernel_rfl) (by kernel_rfl) ?_
                          refine TS_go 6 ?_
                          refine TS_F (by kernel_rfl) rfl ?_
                          refine TS_go 5 ?_
                          refine TS_nilT 2 600001 39 40 (by kernel_rfl) ?_
                          refine TS_fitU ⟨[(2, []), (3, [])], [(600001, (900000, []))]⟩ (by kernel_rfl) ?_
                          refine TS_go 2 ?_
                          refine TS_outJ (by kernel_rfl) ?_
                          refine TS_go 1 ?_
                          have ret := Option.some.inj h
                          subst ret
                          have hy1q := hy1 _ rfl
                          subst hy1q
                          replace h := (elimR hK1)
                          refine TS_retB rfl (by kernel_rfl) ?_
                          refine TS_go 2 ?_
                          have ret := Option.some.inj h
                          subst ret
                          exact TS_ret (by kernel_rfl) (by kernel_rfl) (by kernel_rfl)
                · refine TS_know 76 (b := false) hb270 (by kernel_rfl) (by kernel_rfl) ?_
                  refine TS_know 77 (b := false) hb270 (by kernel_rfl) (by kernel_rfl) ?_
                  refine TS_go 6 ?_
                  refine TS_F (by kernel_rfl) rfl ?_
                  refine TS_go 5 ?_
                  replace h := condO h
                  rcases h with ⟨hb315, h⟩ | ⟨hb315, h⟩
                  · refine TS_know 119 (b := true) hb315 (by kernel_rfl) (by kernel_rfl) ?_
                    refine TS_know 120 (b := true) hb315 (by kernel_rfl) (by kernel_rfl) ?_
                    refine TS_go 6 ?_
                    replace h := condO h
                    rcases h with ⟨hb316, h⟩ | ⟨hb316, h⟩
                    · refine TS_know 123 (b := true) hb316 (by kernel_rfl) (by kernel_rfl) ?_
                      refine TS_know 124 (b := true) hb316 (by kernel_rfl) (by kernel_rfl) ?_
                      refine TS_know 117 (b := true) hb316 (by kernel_rfl) (by kernel_rfl) ?_
                      refine TS_T (by kernel_rfl) rfl ?_
                      refine TS_draw (by kernel_rfl) ?_
                      refine TD_go 1 ?_
                      replace h := bindO h
                      obtain ⟨l317, hl317, h⟩ := h
                      refine TD_sub (ecI .u8) 1 hl317 (by kernel_rfl) (by kernel_rfl) ?_
                      refine TD_go 1 ?_
                      replace h := bindO h
                      obtain ⟨e318, he318, h⟩ := h
                      refine TD_idx (ecI .u8) he318 (by kernel_rfl) (by kernel_rfl) ?_
                      refine TD_go 3 ?_
                      replace h := bindO h
                      obtain ⟨e319, he319, h⟩ := h
                      refine TD_idx (ecI .u8) he319 (by kernel_rfl) (by kernel_rfl) ?_
                      refine TD_go 3 ?_
                      replace h := bindO h
                      obtain ⟨v320, hv320, h⟩ := h
                      refine TD_call [] (ok_ref29_both l317 (IntKind.wrap .i64 e318) (IntKind.wrap .i64 e319) 0 [0, 0, 0, 0, 0, 0, 0, 0, 0, 0, 0, 0, 0, 0, 0, 0] v320 hv320) (by kernel_rfl) (by kernel_rfl) ?_
                      refine TD_go 6 ?_
                      refine TD_end (by kernel_rfl) ?_
                      refine TS_go 1 ?_
                      exact TS_meet (v320.2, s1.2.2.2, (S_Notice.mk (IntKind.wrap .i64 e8) 0 0 0 v320.1 0)) ⟨[(0, []), (4, []), (5, []), (6, []), (9, []), (10, [])], [(600000, (600000, [])), (6, (6, [])), (9, (9, []))]⟩ h (by kernel_rfl) (by kernel_rfl)
                    · refine TS_know 123 (b := false) hb316 (by kernel_rfl) (by kernel_rfl) ?_
                      refine TS_know 124 (b := false) hb316 (by kernel_rfl) (by kernel_rfl) ?_
                      refine TS_know 117 (b := false) hb316 (by kernel_rfl) (by kernel_rfl) ?_
                      refine TS_F (by kernel_rfl) rfl ?_
                      refine TS_go 5 ?_
                      replace h := condO h
                      rcases h with ⟨hb321, h⟩ | ⟨hb321, h⟩
                      · refine TS_know 143 (b := true) hb321 (by kernel_rfl) (by kernel_rfl) ?_
                        refine TS_know 144 (b := true) hb321 (by kernel_rfl) (by kernel_rfl) ?_
                        refine TS_go 6 ?_
                        replace h := condO h
                        rcases h with ⟨hb322, h⟩ | ⟨hb322, h⟩
                        · refine TS_know 147 (b := true) hb322 (by kernel_rfl) (by kernel_rfl) ?_
                          refine TS_know 148 (b := true) hb322 (by kernel_rfl) (by kernel_rfl) ?_
                          refine TS_know 141 (b := true) hb322 (by kernel_rfl) (by kernel_rfl) ?_
                          refine TS_T (by kernel_rfl) rfl ?_
                          refine TS_go 3 ?_
                          replace h := bindO h
                          obtain ⟨v323, hv323, h⟩ := h
                          refine TS_call [] (ok_ref29_Get l10 2 2 v323 hv323) (by kernel_rfl) (by kernel_rfl) ?_
                          refine TS_go 7 ?_
                          replace h := bindO h
                          obtain ⟨e324, he324, h⟩ := h
                          refine TS_idx (ecI .u8) he324 (by kernel_rfl) (by kernel_rfl) ?_
                          refine TS_go 6 ?_
                          refine TS_draw (by kernel_rfl) ?_
                          refine TD_go 1 ?_
                          replace h := bindO h
                          obtain ⟨l325, hl325, h⟩ := h
                          refine TD_sub (ecI .u8) 1 hl325 (by kernel_rfl) (by kernel_rfl) ?_
                          refine TD_go 1 ?_
                          replace h := bindO h
                          obtain ⟨e326, he326, h⟩ := h
                          refine TD_idx (ecI .u8) he326 (by kernel_rfl) (by kernel_rfl) ?_
                          refine TD_go 3 ?_
                          replace h := bindO h
                          obtain ⟨e327, he327, h⟩ := h
                          refine TD_idx (ecI .u8) he327 (by kernel_rfl) (by kernel_rfl) ?_
                          refine TD_go 3 ?_
                          replace h := bindO h
                          obtain ⟨v328, hv328, h⟩ := h
                          refine TD_call [] (ok_ref29_both l325 (IntKind.wrap .i64 e326) (IntKind.wrap .i64 e327) 0 [0, 0, 0, 0, 0, 0, 0, 0, 0, 0, 0, 0, 0, 0, 0, 0] v328 hv328) (by kernel_rfl) (by kernel_rfl) ?_
                          refine TD_go 6 ?_
                          refine TD_end (by kernel_rfl) ?_
                          refine TS_go 2 ?_
                          replace h := bindO h
                          obtain ⟨v329, hv329, h⟩ := h
                          refine TS_call [] (ok_ref29_Get l10 5 8 v329 hv329) (by kernel_rfl) (by kernel_rfl) ?_
                          refine TS_go 5 ?_
                          exact TS_meet (v328.2, s1.2.2.2, (S_Notice.mk (IntKind.wrap .i64 e8) (IntKind.wrap .u16 v323) 0 0 (S_Destination.mk v328.1.Dst v328.1.Src v329) (IntKind.wrap .i64 e324))) ⟨[(0, []), (4, []), (5, []), (6, []), (9, []), (10, [])], [(600000, (600000, [])), (6, (6, [])), (9, (9, []))]⟩ h (by kernel_rfl) (by kernel_rfl)
                        · refine TS_know 147 (b := false) hb322 (by kernel_rfl) (by kernel_rfl) ?_
                          refine TS_know 148 (b := false) hb322 (by kernel_rfl) (by kernel_rfl) ?_
                          refine TS_know 141 (b := false) hb322 (by kernel_rfl) (by kernel_rfl) ?_
                          refine TS_F (by kernel_rfl) rfl ?_
                          refine TS_go 5 ?_
                          replace h := condO h
                          rcases h with ⟨hb330, h⟩ | ⟨hb330, h⟩
                          · refine TS_know 180 (b := true) hb330 (by kernel_rfl) (by kernel_rfl) ?_
                            refine TS_know 181 (b := true) hb330 (by kernel_rfl) (by kernel_rfl) ?_
                            refine TS_go 6 ?_
                            replace h := condO h
                            rcases h with ⟨hb331, h⟩ | ⟨hb331, h⟩
                            · refine TS_know 184 (b := true) hb331 (by kernel_rfl) (by kernel_rfl) ?_
                              refine TS_know 185 (b := true) hb331 (by kernel_rfl) (by kernel_rfl) ?_
                              refine TS_know 178 (b := true) hb331 (by kernel_rfl) (by kernel_rfl) ?_
                              refine TS_T (by kernel_rfl) rfl ?_
                              refine TS_go 3 ?_
                              replace h := bindO h
                              obtain ⟨v332, hv332, h⟩ := h
                              refine TS_call [] (ok_ref29_Get l10 0 8 v332 hv332) (by kernel_rfl) (by kernel_rfl) ?_
                              refine TS_go 4 ?_
                              refine TS_outJ (by kernel_rfl) ?_
                              refine TS_go 1 ?_
                              have ret := Option.some.inj h
                              subst ret
                              exact TS_againB _ ⟨[(0, []), (4, []), (5, []), (6, [])], [(600000, (600000, [])), (6, (6, []))]⟩ rfl (by kernel_rfl) (by kernel_rfl)
                            · refine TS_know 184 (b := false) hb331 (by kernel_rfl) (by kernel_rfl) ?_
                              refine TS_know 185 (b := false) hb331 (by kernel_rfl) (by kernel_rfl) ?_
                              refine TS_know 178 (b := false) hb331 (by kernel_rfl) (by kernel_rfl) ?_
                              refine TS_F (by kernel_rfl) rfl ?_
                              refine TS_go 5 ?_
                              refine TS_nilT 2 600001 39 40 (by kernel_rfl) ?_
                              refine TS_fitU ⟨[(2, []), (3, [])], [(600001, (900000, []))]⟩ (by kernel_rfl) ?_
                              refine TS_go 2 ?_
                              refine TS_outJ (by kernel_rfl) ?_
                              refine TS_go 1 ?_
                              have ret := Option.some.inj h
                              subst ret
                              have hy1q := hy1 _ rfl
                              subst hy1q
                              replace h := (elimR hK1)
                              refine TS_retB rfl (by kernel_rfl) ?_
                              refine TS_go 2 ?_
                              have ret := Option.some.inj h
                              subst ret
                              exact TS_ret (by kernel_rfl) (by kernel_rfl) (by kernel_rfl)
                          · refine TS_know 180 (b := false) hb330 (by kernel_rfl) (by kernel_rfl) ?_
                            refine TS_know 181 (b := false) hb330 (by kernel_rfl) (by kernel_rfl) ?_
                            refine TS_go 6 ?_
                            refine TS_F (by kernel_rfl) rfl ?_
                            refine TS_go 5 ?_
                            refine TS_nilT 2 600001 39 40 (by kernel_rfl) ?_
                            refine TS_fitU ⟨[(2, []), (3, [])], [(600001, (900000, []))]⟩ (by kernel_rfl) ?_
                            refine TS_go 2 ?_
                            refine TS_outJ (by kernel_rfl) ?_
                            refine TS_go 1 ?_
                            have ret := Option.some.inj h
                            subst ret
                            have hy1q := hy1 _ rfl
                            subst hy1q
                            replace h := (elimR hK1)
                            refine TS_retB rfl (by kernel_rfl) ?_
                            refine TS_go 2 ?_
                            have ret := Option.some.inj h
                            subst ret
                            exact TS_ret (by kernel_rfl) (by kernel_rfl) (by kernel_rfl)
                      · refine TS_know 143 (b := false) hb321 (by kernel_rfl) (by kernel_rfl) ?_
                        refine TS_know 144 (b := false) hb321 (by kernel_rfl) (by kernel_rfl) ?_
                        refine TS_go 6 ?_
                        refine TS_F (by kernel_rfl) rfl ?_
                        refine TS_go 5 ?_
                        replace h := condO h
                        rcases h with ⟨hb333, h⟩ | ⟨hb333, h⟩
                        · refine TS_know 180 (b := true) hb333 (by kernel_rfl) (by kernel_rfl) ?_
                          refine TS_know 181 (b := true) hb333 (by kernel_rfl) (by kernel_rfl) ?_
                          refine TS_go 6 ?_
                          replace h := condO h
                          rcases h with ⟨hb334, h⟩ | ⟨hb334, h⟩
                          · refine TS_know 184 (b := true) hb334 (by kernel_rfl) (by kernel_rfl) ?_
                            refine TS_know 185 (b := true) hb334 (by kernel_rfl) (by kernel_rfl) ?_
                            refine TS_know 178 (b := true) hb334 (by kernel_rfl) (by kernel_rfl) ?_
                            refine TS_T (by kernel_rfl) rfl ?_
                            refine TS_go 3 ?_
                            replace h := bindO h
                            obtain ⟨v335, hv335, h⟩ := h
                            refine TS_call [] (ok_ref29_Get l10 0 8 v335 hv335) (by kernel_rfl) (by kernel_rfl) ?_
                            refine TS_go 4 ?_
                            refine TS_outJ (by kernel_rfl) ?_
                            refine TS_go 1 ?_
                            have ret := Option.some.inj h
                            subst ret
                            exact TS_againB _ ⟨[(0, []), (4, []), (5, []), (6, [])], [(600000, (600000, [])), (6, (6, []))]⟩ rfl (by kernel_rfl) (by kernel_rfl)
                          · refine TS_know 184 (b := false) hb334 (by kernel_rfl) (by kernel_rfl) ?_
                            refine TS_know 185 (b := false) hb334 (by kernel_rfl) (by kernel_rfl) ?_
                            refine TS_know 178 (b := false) hb334 (by kernel_rfl) (by kernel_rfl) ?_
                            refine TS_F (by kernel_rfl) rfl ?_
                            refine TS_go 5 ?_
                            refine TS_nilT 2 600001 39 40 (by kernel_rfl) ?_
                            refine TS_fitU ⟨[(2, []), (3, [])], [(600001, (900000, []))]⟩ (by kernel_rfl) ?_
                            refine TS_go 2 ?_
                            refine TS_outJ (by kernel_rfl) ?_
                            refine TS_go 1 ?_
                            have ret := Option.some.inj h
                            subst ret
                            have hy1q := hy1 _ rfl
                            subst hy1q
                            replace h := (elimR hK1)
                            refine TS_retB rfl (by kernel_rfl) ?_
                            refine TS_go 2 ?_
                            have ret := Option.some.inj h
                            subst ret
                            exact TS_ret (by kernel_rfl) (by kernel_rfl) (by kernel_rfl)
                        · refine TS_know 180 (b := false) hb333 (by kernel_rfl) (by kernel_rfl) ?_
                          refine TS_know 181 (b := false) hb333 (by kernel_rfl) (by kernel_rfl) ?_
                          refine TS_go 6 ?_
                          refine TS_F (by kernel_rfl) rfl ?_
                          refine TS_go 5 ?_
                          refine TS_nilT 2 600001 39 40 (by kernel_rfl) ?_
                          refine TS_fitU ⟨[(2, []), (3, [])], [(600001, (900000, []))]⟩ (by kernel_rfl) ?_
                          refine TS_go 2 ?_
                          refine TS_outJ (by kernel_rfl) ?_
                          refine TS_go 1 ?_
                          have ret := Option.some.inj h
                          subst ret
                          have hy1q := hy1 _ rfl
                          subst hy1q
                          replace h := (elimR hK1)
                          refine TS_retB rfl (by kernel_rfl) ?_
                          refine TS_go 2 ?_
                          have ret := Option.some.inj h
                          subst ret
                          exact TS_ret (by kernel_rfl) (by kernel_rfl) (by kernel_rfl)
                  · refine TS_know 119 (b := false) hb315 (by kernel_rfl) (by kernel_rfl) ?_
                    refine TS_know 120 (b := false) hb315 (by kernel_rfl) (by kernel_rfl) ?_
                    refine TS_go 6 ?_
                    refine TS_F (by kernel_rfl) rfl ?_
                    refine TS_go 5 ?_
                    replace h := condO h
                    rcases h with ⟨hb336, h⟩ | ⟨hb336, h⟩
                    · refine TS_know 143 (b := true) hb336 (by kernel_rfl) (by kernel_rfl) ?_
                      refine TS_know 144 (b := true) hb336 (by kernel_rfl) (by kernel_rfl) ?_
                      refine TS_go 6 ?_
                      replace h := condO h
                      rcases h with ⟨hb337, h⟩ | ⟨hb337, h⟩
                      · refine TS_know 147 (b := true) hb337 (by kernel_rfl) (by kernel_rfl) ?_
                        refine TS_know 148 (b := true) hb337 (by kernel_rfl) (by kernel_rfl) ?_
                        refine TS_know 141 (b := true) hb337 (by kernel_rfl) (by kernel_rfl) ?_
                        refine TS_T (by kernel_rfl) rfl ?_
                        refine TS_go 3 ?_
                        replace h := bindO h
                        obtain ⟨v338, hv338, h⟩ := h
                        refine TS_call [] (ok_ref29_Get l10 2 2 v338 hv338) (by kernel_rfl) (by kernel_rfl) ?_
                        refine TS_go 7 ?_
                        replace h := bindO h
                        obtain ⟨e339, he339, h⟩ := h
                        refine TS_idx (ecI .u8) he339 (by kernel_rfl) (by kernel_rfl) ?_
                        refine TS_go 6 ?_
                        refine TS_draw (by kernel_rfl) ?_
                        refine TD_go 1 ?_
                        replace h := bindO h
                        obtain ⟨l340, hl340, h⟩ := h
                        refine TD_sub (ecI .u8) 1 hl340 (by kernel_rfl) (by kernel_rfl) ?_
                        refine TD_go 1 ?_
                        replace h := bindO h
                        obtain ⟨e341, he341, h⟩ := h
                        refine TD_idx (ecI .u8) he341 (by kernel_rfl) (by kernel_rfl) ?_
                        refine TD_go 3 ?_
                        replace h := bindO h
                        obtain ⟨e342, he342, h⟩ := h
                        refine TD_idx (ecI .u8) he342 (by kernel_rfl) (by kernel_rfl) ?_
                        refine TD_go 3 ?_
                        replace h := bindO h
                        obtain ⟨v343, hv343, h⟩ := h
                        refine TD_call [] (ok_ref29_both l340 (IntKind.wrap .i64 e341) (IntKind.wrap .i64 e342) 0 [0, 0, 0, 0, 0, 0, 0, 0, 0, 0, 0, 0, 0, 0, 0, 0] v343 hv343) (by kernel_rfl) (by kernel_rfl) ?_
                        refine TD_go 6 ?_
                        refine TD_end (by kernel_rfl) ?_
                        refine TS_go 2 ?_
                        replace h := bindO h
                        obtain ⟨v344, hv344, h⟩ := h
                        refine TS_call [] (ok_ref29_Get l10 5 8 v344 hv344) (by kernel_rfl) (by kernel_rfl) ?_
                        refine TS_go 5 ?_
                        exact TS_meet (v343.2, s1.2.2.2, (S_Notice.mk (IntKind.wrap .i64 e8) (IntKind.wrap .u16 v338) 0 0 (S_Destination.mk v343.1.Dst v343.1.Src v344) (IntKind.wrap .i64 e339))) ⟨[(0, []), (4, []), (5, []), (6, []), (9, []), (10, [])], [(600000, (600000, [])), (6, (6, [])), (9, (9, []))]⟩ h (by kernel_rfl) (by kernel_rfl)
                      · refine TS_know 147 (b := false) hb337 (by kernel_rfl) (by kernel_rfl) ?_
                        refine TS_know 148 (b := false) hb337 (by kernel_rfl) (by kernel_rfl) ?_
                        refine TS_know 141 (b := false) hb337 (by kernel_rfl) (by kernel_rfl) ?_
                        refine TS_F (by kernel_rfl) rfl ?_
                        refine TS_go 5 ?_
                        replace h := condO h
                        rcases h with ⟨hb345, h⟩ | ⟨hb345, h⟩
                        · refine TS_know 180 (b := true) hb345 (by kernel_rfl) (by kernel_rfl) ?_
                          refine TS_know 181 (b := true) hb345 (by kernel_rfl) (by kernel_rfl) ?_
                          refine TS_go 6 ?_
                          replace h := condO h
                          rcases h with ⟨hb346, h⟩ | ⟨hb346, h⟩
                          · refine TS_know 184 (b := true) hb346 (by kernel_rfl) (by kernel_rfl) ?_
                            refine TS_know 185 (b := true) hb346 (by kernel_rfl) (by kernel_rfl) ?_
                            refine TS_know 178 (b := true) hb346 (by kernel_rfl) (by kernel_rfl) ?_
                            refine TS_T (by kernel_rfl) rfl ?_
                            refine TS_go 3 ?_
                            replace h := bindO h
                            obtain ⟨v347, hv347, h⟩ := h
                            refine TS_call [] (ok_ref29_Get l10 0 8 v347 hv347) (by kernel_rfl) (by kernel_rfl) ?_
                            refine TS_go 4 ?_
                            refine TS_outJ (by kernel_rfl) ?_
                            refine TS_go 1 ?_
                            have ret := Option.some.inj h
                            subst ret
                            exact TS_againB _ ⟨[(0, []), (4, []), (5, []), (6, [])], [(600000, (600000, [])), (6, (6, []))]⟩ rfl (by kernel_rfl) (by kernel_rfl)
                          · refine TS_know 184 (b := false) hb346 (by kernel_rfl) (by kernel_rfl) ?_
                            refine TS_know 185 (b := false) hb346 (by kernel_rfl) (by kernel_rfl) ?_
                            refine TS_know 178 (b := false) hb346 (by kernel_rfl) (by kernel_rfl) ?_
                            refine TS_F (by kernel_rfl) rfl ?_
                            refine TS_go 5 ?_
                            refine TS_nilT 2 600001 39 40 (by kernel_rfl) ?_
                            refine TS_fitU ⟨[(2, []), (3, [])], [(600001, (900000, []))]⟩ (by kernel_rfl) ?_
                            refine TS_go 2 ?_
                            refine TS_outJ (by kernel_rfl) ?_
                            refine TS_go 1 ?_
                            have ret := Option.some.inj h
                            subst ret
                            have hy1q := hy1 _ rfl
                            subst hy1q
                            replace h := (elimR hK1)
                            refine TS_retB rfl (by kernel_rfl) ?_
                            refine TS_go 2 ?_
                            have ret := Option.some.inj h
                            subst ret
                            exact TS_ret (by kernel_rfl) (by kernel_rfl) (by kernel_rfl)
                        · refine TS_know 180 (b := false) hb345 (by kernel_rfl) (by kernel_rfl) ?_
                          refine TS_know 181 (b := false) hb345 (by kernel_rfl) (by kernel_rfl) ?_
                          refine TS_go 6 ?_
                          refine TS_F (by kernel_rfl) rfl ?_
                          refine TS_go 5 ?_
                          refine TS_nilT 2 600001 39 40 (by kernel_rfl) ?_
                          refine TS_fitU ⟨[(2, []), (3, [])], [(600001, (900000, []))]⟩ (by kernel_rfl) ?_
                          refine TS_go 2 ?_
                          refine TS_outJ (by kernel_rfl) ?_
                          refine TS_go 1 ?_
                          have ret := Option.some.inj h
                          subst ret
                          have hy1q := hy1 _ rfl
                          subst hy1q
                          replace h := (elimR hK1)
                          refine TS_retB rfl (by kernel_rfl) ?_
                          refine TS_go 2 ?_
                          have ret := Option.some.inj h
                          subst ret
                          exact TS_ret (by kernel_rfl) (by kernel_rfl) (by kernel_rfl)
                    · refine TS_know 143 (b := false) hb336 (by kernel_rfl) (by kernel_rfl) ?_
                      refine TS_know 144 (b := false) hb336 (by kernel_rfl) (by kernel_rfl) ?_
                      refine TS_go 6 ?_
                      refine TS_F (by kernel_rfl) rfl ?_
                      refine TS_go 5 ?_
                      replace h := condO h
                      rcases h with ⟨hb348, h⟩ | ⟨hb348, h⟩
                      · refine TS_know 180 (b := true) hb348 (by kernel_rfl) (by kernel_rfl) ?_
                        refine TS_know 181 (b := true) hb348 (by kernel_rfl) (by kernel_rfl) ?_
                        refine TS_go 6 ?_
                        replace h := condO h
                        rcases h with ⟨hb349, h⟩ | ⟨hb349, h⟩
                        · refine TS_know 184 (b := true) hb349 (by kernel_rfl) (by kernel_rfl) ?_
                          refine TS_know 185 (b := true) hb349 (by kernel_rfl) (by kernel_rfl) ?_
                          refine TS_know 178 (b := true) hb349 (by kernel_rfl) (by kernel_rfl) ?_
                          refine TS_T (by kernel_rfl) rfl ?_
                          refine TS_go 3 ?_
                          replace h := bindO h
                          obtain ⟨v350, hv350, h⟩ := h
                          refine TS_call [] (ok_ref29_Get l10 0 8 v350 hv350) (by kernel_rfl) (by kernel_rfl) ?_
                          refine TS_go 4 ?_
                          refine TS_outJ (by kernel_rfl) ?_
                          refine TS_go 1 ?_
                          have ret := Option.some.inj h
                          subst ret
                          exact TS_againB _ ⟨[(0, []), (4, []), (5, []), (6, [])], [(600000, (600000, [])), (6, (6, []))]⟩ rfl (by kernel_rfl) (by kernel_rfl)
                        · refine TS_know 184 (b := false) hb349 (by kernel_rfl) (by kernel_rfl) ?_
                          refine TS_know 185 (b := false) hb349 (by kernel_rfl) (by kernel_rfl) ?_
                          refine TS_know 178 (b := false) hb349 (by kernel_rfl) (by kernel_rfl) ?_
                          refine TS_F (by kernel_rfl) rfl ?_
                          refine TS_go 5 ?_
                          refine TS_nilT 2 600001 39 40 (by kernel_rfl) ?_
                          refine TS_fitU ⟨[(2, []), (3, [])], [(600001, (900000, []))]⟩ (by kernel_rfl) ?_
                          refine TS_go 2 ?_
                          refine TS_outJ (by kernel_rfl) ?_
                          refine TS_go 1 ?_
                          have ret := Option.some.inj h
                          subst ret
                          have hy1q := hy1 _ rfl
                          subst hy1q
                          replace h := (elimR hK1)
                          refine TS_retB rfl (by kernel_rfl) ?_
                          refine TS_go 2 ?_
                          have ret := Option.some.inj h
                          subst ret
                          exact TS_ret (by kernel_rfl) (by kernel_rfl) (by kernel_rfl)
                      · refine TS_know 180 (b := false) hb348 (by kernel_rfl) (by kernel_rfl) ?_
                        refine TS_know 181 (b := false) hb348 (by kernel_rfl) (by kernel_rfl) ?_
                        refine TS_go 6 ?_
                        refine TS_F (by kernel_rfl) rfl ?_
                        refine TS_go 5 ?_
                        refine TS_nilT 2 600001 39 40 (by kernel_rfl) ?_
                        refine TS_fitU ⟨[(2, []), (3, [])], [(600001, (900000, []))]⟩ (by kernel_rfl) ?_
                        refine TS_go 2 ?_
                        refine TS_outJ (by kernel_rfl) ?_
                        refine TS_go 1 ?_
                        have ret := Option.some.inj h
                        subst ret
                        have hy1q := hy1 _ rfl
                        subst hy1q
                        replace h := (elimR hK1)
                        refine TS_retB rfl (by kernel_rfl) ?_
                        refine TS_go 2 ?_
                        have ret := Option.some.inj h
                        subst ret
                        exact TS_ret (by kernel_rfl) (by kernel_rfl) (by kernel_rfl)
    · refine TS_know 13 (b := false) hb4 (by kernel_rfl) (by kernel_rfl) ?_
      refine TS_F (by kernel_rfl) rfl ?_
      refine TS_go 2 ?_
      have ret := Option.some.inj h
      subst ret
      exact TS_brkB s1.2.1 ⟨[(4, [])], [(600000, (600000, []))]⟩ rfl (by kernel_rfl) (by kernel_rfl) (by kernel_rfl)
  · intro b2 hb
    subst y3
    have h := elimL hK1
    refine TS_go 7 ?_
    refine TS_fitU ⟨[(2, []), (3, [])], [(600000, (900000, []))]⟩ (by kernel_rfl) ?_
    refine TS_go 1 ?_
    have ret := Option.some.inj h
    subst ret
    exact TS_ret (by kernel_rfl) (by kernel_rfl) (by kernel_rfl)
end
end Go.Proofs.Ytcemblilhbidgaa
