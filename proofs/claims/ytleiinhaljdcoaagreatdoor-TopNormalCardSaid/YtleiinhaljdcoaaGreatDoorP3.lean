/- What is proved here: what the program's functions come to, as far as the claimed statement asks. Conditions: those that each theorem names, and no others. -/
import Derived.Test.YtleiinhaljdcoaaGreatDoorP2
import Derived.Test.YtleiinhaljdcoaaGreatDoorRows
set_option linter.unusedSimpArgs false
set_option linter.unusedVariables false
namespace Go.Proofs.YtleiinhaljdcoaaGreatDoor
open Go Lon
def k_viscii_Decode:ACode:=(.seq (.ops [⟨some 2,.mv (.const (.int .i64 0)),none⟩]) (.seq (.seq (.ops [⟨some 3,.mv (.tmp 0),none⟩]) (.block 0 (.seq (.ops [⟨some 5,.int .eql (.tmp 3) (.const (.int .u8 2)),none⟩,⟨some 4,.mv (.tmp 5),none⟩]) (.cond (.tmp 4) (.seq (.ops [⟨some 2,.mv (.const (.int .i64 7858)),none⟩]) .ret) (.seq (.ops [⟨some 7,.int .eql (.tmp 3) (.const (.int .u8 5)),none⟩,⟨some 6,.mv (.tmp 7),none⟩]) (.cond (.tmp 6) (.seq (.ops [⟨some 2,.mv (.const (.int .i64 7860)),none⟩]) .ret) (.seq (.ops [⟨some 9,.int .eql (.tmp 3) (.const (.int .u8 6)),none⟩,⟨some 8,.mv (.tmp 9),none⟩]) (.cond (.tmp 8) (.seq (.ops [⟨some 2,.mv (.const (.int .i64 7850)),none⟩]) .ret) (.seq (.ops [⟨some 11,.int .eql (.tmp 3) (.const (.int .u8 20)),none⟩,⟨some 10,.mv (.tmp 11),none⟩]) (.cond (.tmp 10) (.seq (.ops [⟨some 2,.mv (.const (.int .i64 7926)),none⟩]) .ret) (.seq (.ops [⟨some 13,.int .eql (.tmp 3) (.const (.int .u8 25)),none⟩,⟨some 12,.mv (.tmp 13),none⟩]) (.cond (.tmp 12) (.seq (.ops [⟨some 2,.mv (.const (.int .i64 7928)),none⟩]) .ret) (.seq (.ops [⟨some 15,.int .eql (.tmp 3) (.const (.int .u8 30)),none⟩,⟨some 14,.mv (.tmp 15),none⟩]) (.cond (.tmp 14) (.seq (.ops [⟨some 2,.mv (.const (.int .i64 7924)),none⟩]) .ret) .skip)))))))))))))) (.seq (.seq (.ops [⟨some 16,.mv (.tmp 0),none⟩,⟨some 17,.int .lss (.tmp 16) (.const (.int .u8 128)),none⟩]) (.cond (.tmp 17) (.seq (.ops [⟨some 18,.mv (.tmp 0),none⟩,⟨some 19,.conv .i64 (.tmp 18),none⟩,⟨some 2,.mv (.tmp 19),none⟩]) .ret) .skip)) (.seq (.ops [⟨some 20,.call (.func 107) [],none⟩,⟨some 21,.mv (.tmp 0),none⟩,⟨some 22,.int .sub (.tmp 21) (.const (.int .u8 128)),none⟩,⟨some 23,.index (.tmp 20) (.tmp 22) 128 false 1,none⟩,⟨some 2,.mv (.tmp 23),none⟩]) .ret))))
def F_viscii_Decode:AFunc:=⟨1,24,[.tmp 2],k_viscii_Decode⟩
theorem ok_viscii_Decode:FOK Tryz.prog 81 F_viscii_Decode:=FOK.of [] Tryz.func81 (by kernel_rfl) (by kernel_rfl)
def b_rule_Singles_0:ACode:=(.seq (.ops [⟨some 9,.int .lss (.tmp 8) (.tmp 7),none⟩]) (.seq (.cond (.tmp 9) .skip (.exit 0)) (.seq (.block 1 (.seq (.ops [⟨some 10,.iaddr (.tmp 6) (.tmp 8) 2,none⟩,⟨some 11,.load (.tmp 10) (some 2),none⟩,⟨some 5,.alloc [(.int .i64 0),(.int .i64 0)] 162,none⟩,⟨none,.store (.tmp 5) (.tmp 11) 2,none⟩]) (.ops [⟨some 12,.mv (.tmp 3),none⟩,⟨some 13,.aaddr (.tmp 5) (.const (.int .i64 0)) 2 1,none⟩,⟨some 14,.load (.tmp 13) none,none⟩,⟨some 15,.bslice 3 1 1 [(.int .i64 0)] [(0,1,(.tmp 14))],none⟩,⟨some 16,.aaddr (.tmp 5) (.const (.int .i64 1)) 2 1,none⟩,⟨some 17,.load (.tmp 16) none,none⟩,⟨some 18,.bslice 3 1 1 [(.int .i64 0)] [(0,1,(.tmp 17))],none⟩,⟨some 19,.build [(.slice none 0 0),(.slice none 0 0)] [(0,1,(.tmp 15)),(1,1,(.tmp 18))],none⟩,⟨some 20,.bslice 127 1 2 [(.slice none 0 0),(.slice none 0 0)] [(0,2,(.tmp 19))],none⟩,⟨some 21,.append (.tmp 12) (.tmp 20) 127 2 48,none⟩,⟨some 3,.mv (.tmp 21),none⟩]))) (.ops [⟨some 22,.int .add (.tmp 8) (.const (.int .i64 1)),none⟩,⟨some 8,.mv (.tmp 22),none⟩]))))
def k_rule_Singles:ACode:=(.seq (.ops [⟨some 2,.mv (.const (.slice none 0 0)),none⟩]) (.seq (.ops [⟨some 3,.mv (.const (.slice none 0 0)),none⟩]) (.seq (.seq (.ops [⟨some 6,.mv (.tmp 0),none⟩,⟨some 7,.len false (.tmp 6),none⟩,⟨some 8,.mv (.const (.int .i64 0)),none⟩]) (.block 0 (.loop [3,6,7,8] b_rule_Singles_0))) (.seq (.ops [⟨some 23,.mv (.tmp 3),none⟩,⟨some 2,.mv (.tmp 23),none⟩]) .ret))))
def F_rule_Singles:AFunc:=⟨1,24,[.tmp 2],k_rule_Singles⟩
theorem ok_rule_Singles:FOK Tryz.prog 82 F_rule_Singles:=FOK.of [[3,6,7,8]] Tryz.func82 (by kernel_rfl) (by kernel_rfl)
def k_tcvn_rows:ACode:=(.seq (.ops [⟨some 0,.mv (.const (.slice none 0 0)),none⟩]) (.seq (.ops [⟨some 1,.build [(.int .i64 0),(.int .i64 0)] [(0,1,(.const (.int .i64 161))),(1,1,(.const (.int .i64 258)))],none⟩,⟨some 2,.build [(.int .i64 0),(.int .i64 0)] [(0,1,(.const (.int .i64 162))),(1,1,(.const (.int .i64 194)))],none⟩,⟨some 3,.build [(.int .i64 0),(.int .i64 0)] [(0,1,(.const (.int .i64 163))),(1,1,(.const (.int .i64 202)))],none⟩,⟨some 4,.build [(.int .i64 0),(.int .i64 0)] [(0,1,(.const (.int .i64 164))),(1,1,(.const (.int .i64 212)))],none⟩,⟨some 5,.build [(.int .i64 0),(.int .i64 0)] [(0,1,(.const (.int .i64 165))),(1,1,(.const (.int .i64 416)))],none⟩,⟨some 6,.build [(.int .i64 0),(.int .i64 0)] [(0,1,(.const (.int .i64 166))),(1,1,(.const (.int .i64 431)))],none⟩,⟨some 7,.build [(.int .i64 0),(.int .i64 0)] [(0,1,(.const (.int .i64 167))),(1,1,(.const (.int .i64 272)))],none⟩,⟨some 8,.build [(.int .i64 0),(.int .i64 0)] [(0,1,(.const (.int .i64 168))),(1,1,(.const (.int .i64 259)))],none⟩,⟨some 9,.build [(.int .i64 0),(.int .i64 0)] [(0,1,(.const (.int .i64 169))),(1,1,(.const (.int .i64 226)))],none⟩,⟨some 10,.build [(.int .i64 0),(.int .i64 0)] [(0,1,(.const (.int .i64 170))),(1,1,(.const (.int .i64 234)))],none⟩,⟨some 11,.build [(.int .i64 0),(.int .i64 0)] [(0,1,(.const (.int .i64 171))),(1,1,(.const (.int .i64 244)))],none⟩,⟨some 12,.build [(.int .i64 0),(.int .i64 0)] [(0,1,(.const (.int .i64 172))),(1,1,(.const (.int .i64 417)))],none⟩,⟨some 13,.build [(.int .i64 0),(.int .i64 0)] [(0,1,(.const (.int .i64 173))),(1,1,(.const (.int .i64 432)))],none⟩,⟨some 14,.build [(.int .i64 0),(.int .i64 0)] [(0,1,(.const (.int .i64 174))),(1,1,(.const (.int .i64 273)))],none⟩,⟨some 15,.build [(.int .i64 0),(.int .i64 0)] [(0,1,(.const (.int .i64 181))),(1,1,(.const (.int .i64 224)))],none⟩,⟨some 16,.build [(.int .i64 0),(.int .i64 0)] [(0,1,(.const (.int .i64 182))),(1,1,(.const (.int .i64 7843)))],none⟩,⟨some 17,.build [(.int .i64 0),(.int .i64 0)] [(0,1,(.const (.int .i64 183))),(1,1,(.const (.int .i64 227)))],none⟩,⟨some 18,.build [(.int .i64 0),(.int .i64 0)] [(0,1,(.const (.int .i64 184))),(1,1,(.const (.int .i64 225)))],none⟩,⟨some 19,.build [(.int .i64 0),(.int .i64 0)] [(0,1,(.const (.int .i64 185))),(1,1,(.const (.int .i64 7841)))],none⟩,⟨some 20,.build [(.int .i64 0),(.int .i64 0)] [(0,1,(.const (.int .i64 187))),(1,1,(.const (.int .i64 7857)))],none⟩,⟨some 21,.build [(.int .i64 0),(.int .i64 0)] [(0,1,(.const (.int .i64 188))),(1,1,(.const (.int .i64 7859)))],none⟩,⟨some 22,.build [(.int .i64 0),(.int .i64 0)] [(0,1,(.const (.int .i64 189))),(1,1,(.const (.int .i64 7861)))],none⟩,⟨some 23,.build [(.int .i64 0),(.int .i64 0)] [(0,1,(.const (.int .i64 190))),(1,1,(.const (.int .i64 7855)))],none⟩,⟨some 24,.build [(.int .i64 0),(.int .i64 0)] [(0,1,(.const (.int .i64 198))),(1,1,(.const (.int .i64 7863)))],none⟩,⟨some 25,.build [(.int .i64 0),(.int .i64 0)] [(0,1,(.const (.int .i64 199))),(1,1,(.const (.int .i64 7847)))],none⟩,⟨some 26,.build [(.int .i64 0),(.int .i64 0)] [(0,1,(.const (.int .i64 200))),(1,1,(.const (.int .i64 7849)))],none⟩,⟨some 27,.build [(.int .i64 0),(.int .i64 0)] [(0,1,(.const (.int .i64 201))),(1,1,(.const (.int .i64 7851)))],none⟩,⟨some 28,.build [(.int .i64 0),(.int .i64 0)] [(0,1,(.const (.int .i64 202))),(1,1,(.const (.int .i64 7845)))],none⟩,⟨some 29,.build [(.int .i64 0),(.int .i64 0)] [(0,1,(.const (.int .i64 203))),(1,1,(.const (.int .i64 7853)))],none⟩,⟨some 30,.build [(.int .i64 0),(.int .i64 0)] [(0,1,(.const (.int .i64 204))),(1,1,(.const (.int .i64 232)))],none⟩,⟨some 31,.build [(.int .i64 0),(.int .i64 0)] [(0,1,(.const (.int .i64 206))),(1,1,(.const (.int .i64 7867)))],none⟩,⟨some 32,.build [(.int .i64 0),(.int .i64 0)] [(0,1,(.const (.int .i64 207))),(1,1,(.const (.int .i64 7869)))],none⟩,⟨some 33,.build [(.int .i64 0),(.int .i64 0)] [(0,1,(.const (.int .i64 208))),(1,1,(.const (.int .i64 233)))],none⟩,⟨some 34,.build [(.int .i64 0),(.int .i64 0)] [(0,1,(.const (.int .i64 209))),(1,1,(.const (.int .i64 7865)))],none⟩,⟨some 35,.build [(.int .i64 0),(.int .i64 0)] [(0,1,(.const (.int .i64 210))),(1,1,(.const (.int .i64 7873)))],none⟩,⟨some 36,.build [(.int .i64 0),(.int .i64 0)] [(0,1,(.const (.int .i64 211))),(1,1,(.const (.int .i64 7875)))],none⟩,⟨some 37,.build [(.int .i64 0),(.int .i64 0)] [(0,1,(.const (.int .i64 212))),(1,1,(.const (.int .i64 7877)))],none⟩,⟨some 38,.build [(.int .i64 0),(.int .i64 0)] [(0,1,(.const (.int .i64 213))),(1,1,(.const (.int .i64 7871)))],none⟩,⟨some 39,.build [(.int .i64 0),(.int .i64 0)] [(0,1,(.const (.int .i64 214))),(1,1,(.const (.int .i64 7879)))],none⟩,⟨some 40,.build [(.int .i64 0),(.int .i64 0)] [(0,1,(.const (.int .i64 215))),(1,1,(.const (.int .i64 236)))],none⟩,⟨some 41,.build [(.int .i64 0),(.int .i64 0)] [(0,1,(.const (.int .i64 216))),(1,1,(.const (.int .i64 7881)))],none⟩,⟨some 42,.build [(.int .i64 0),(.int .i64 0)] [(0,1,(.const (.int .i64 220))),(1,1,(.const (.int .i64 297)))],none⟩,⟨some 43,.build [(.int .i64 0),(.int .i64 0)] [(0,1,(.const (.int .i64 221))),(1,1,(.const (.int .i64 237)))],none⟩,⟨some 44,.build [(.int .i64 0),(.int .i64 0)] [(0,1,(.const (.int .i64 222))),(1,1,(.const (.int .i64 7883)))],none⟩,⟨some 45,.build [(.int .i64 0),(.int .i64 0)] [(0,1,(.const (.int .i64 223))),(1,1,(.const (.int .i64 242)))],none⟩,⟨some 46,.build [(.int .i64 0),(.int .i64 0)] [(0,1,(.const (.int .i64 225))),(1,1,(.const (.int .i64 7887)))],none⟩,⟨some 47,.build [(.int .i64 0),(.int .i64 0)] [(0,1,(.const (.int .i64 226))),(1,1,(.const (.int .i64 245)))],none⟩,⟨some 48,.build [(.int .i64 0),(.int .i64 0)] [(0,1,(.const (.int .i64 227))),(1,1,(.const (.int .i64 243)))],none⟩,⟨some 49,.build [(.int .i64 0),(.int .i64 0)] [(0,1,(.const (.int .i64 228))),(1,1,(.const (.int .i64 7885)))],none⟩,⟨some 50,.build [(.int .i64 0),(.int .i64 0)] [(0,1,(.const (.int .i64 229))),(1,1,(.const (.int .i64 7891)))],none⟩,⟨some 51,.build [(.int .i64 0),(.int .i64 0)] [(0,1,(.const (.int .i64 230))),(1,1,(.const (.int .i64 7893)))],none⟩,⟨some 52,.build [(.int .i64 0),(.int .i64 0)] [(0,1,(.const (.int .i64 231))),(1,1,(.const (.int .i64 7895)))],none⟩,⟨some 53,.build [(.int .i64 0),(.int .i64 0)] [(0,1,(.const (.int .i64 232))),(1,1,(.const (.int .i64 7889)))],none⟩,⟨some 54,.build [(.int .i64 0),(.int .i64 0)] [(0,1,(.const (.int .i64 233))),(1,1,(.const (.int .i64 7897)))],none⟩,⟨some 55,.build [(.int .i64 0),(.int .i64 0)] [(0,1,(.const (.int .i64 234))),(1,1,(.const (.int .i64 7901)))],none⟩,⟨some 56,.build [(.int .i64 0),(.int .i64 0)] [(0,1,(.const (.int .i64 235))),(1,1,(.const (.int .i64 7903)))],none⟩,⟨some 57,.build [(.int .i64 0),(.int .i64 0)] [(0,1,(.const (.int .i64 236))),(1,1,(.const (.int .i64 7905)))],none⟩,⟨some 58,.build [(.int .i64 0),(.int .i64 0)] [(0,1,(.const (.int .i64 237))),(1,1,(.const (.int .i64 7899)))],none⟩,⟨some 59,.build [(.int .i64 0),(.int .i64 0)] [(0,1,(.const (.int .i64 238))),(1,1,(.const (.int .i64 7907)))],none⟩,⟨some 60,.build [(.int .i64 0),(.int .i64 0)] [(0,1,(.const (.int .i64 239))),(1,1,(.const (.int .i64 249)))],none⟩,⟨some 61,.build [(.int .i64 0),(.int .i64 0)] [(0,1,(.const (.int .i64 241))),(1,1,(.const (.int .i64 7911)))],none⟩,⟨some 62,.build [(.int .i64 0),(.int .i64 0)] [(0,1,(.const (.int .i64 242))),(1,1,(.const (.int .i64 361)))],none⟩,⟨some 63,.build [(.int .i64 0),(.int .i64 0)] [(0,1,(.const (.int .i64 243))),(1,1,(.const (.int .i64 250)))],none⟩,⟨some 64,.build [(.int .i64 0),(.int .i64 0)] [(0,1,(.const (.int .i64 244))),(1,1,(.const (.int .i64 7909)))],none⟩,⟨some 65,.build [(.int .i64 0),(.int .i64 0)] [(0,1,(.const (.int .i64 245))),(1,1,(.const (.int .i64 7915)))],none⟩,⟨some 66,.build [(.int .i64 0),(.int .i64 0)] [(0,1,(.const (.int .i64 246))),(1,1,(.const (.int .i64 7917)))],none⟩,⟨some 67,.build [(.int .i64 0),(.int .i64 0)] [(0,1,(.const (.int .i64 247))),(1,1,(.const (.int .i64 7919)))],none⟩,⟨some 68,.build [(.int .i64 0),(.int .i64 0)] [(0,1,(.const (.int .i64 248))),(1,1,(.const (.int .i64 7913)))],none⟩,⟨some 69,.build [(.int .i64 0),(.int .i64 0)] [(0,1,(.const (.int .i64 249))),(1,1,(.const (.int .i64 7921)))],none⟩,⟨some 70,.build [(.int .i64 0),(.int .i64 0)] [(0,1,(.const (.int .i64 250))),(1,1,(.const (.int .i64 7923)))],none⟩,⟨some 71,.build [(.int .i64 0),(.int .i64 0)] [(0,1,(.const (.int .i64 251))),(1,1,(.const (.int .i64 7927)))],none⟩,⟨some 72,.build [(.int .i64 0),(.int .i64 0)] [(0,1,(.const (.int .i64 252))),(1,1,(.const (.int .i64 7929)))],none⟩,⟨some 73,.build [(.int .i64 0),(.int .i64 0)] [(0,1,(.const (.int .i64 253))),(1,1,(.const (.int .i64 253)))],none⟩,⟨some 74,.build [(.int .i64 0),(.int .i64 0)] [(0,1,(.const (.int .i64 254))),(1,1,(.const (.int .i64 7925)))],none⟩,⟨some 75,.bslice 162 74 2 [(.int .i64 0),(.int .i64 0)] [(0,2,(.tmp 1)),(2,2,(.tmp 2)),(4,2,(.tmp 3)),(6,2,(.tmp 4)),(8,2,(.tmp 5)),(10,2,(.tmp 6)),(12,2,(.tmp 7)),(14,2,(.tmp 8)),(16,2,(.tmp 9)),(18,2,(.tmp 10)),(20,2,(.tmp 11)),(22,2,(.tmp 12)),(24,2,(.tmp 13)),(26,2,(.tmp 14)),(28,2,(.tmp 15)),(30,2,(.tmp 16)),(32,2,(.tmp 17)),(34,2,(.tmp 18)),(36,2,(.tmp 19)),(38,2,(.tmp 20)),(40,2,(.tmp 21)),(42,2,(.tmp 22)),(44,2,(.tmp 23)),(46,2,(.tmp 24)),(48,2,(.tmp 25)),(50,2,(.tmp 26)),(52,2,(.tmp 27)),(54,2,(.tmp 28)),(56,2,(.tmp 29)),(58,2,(.tmp 30)),(60,2,(.tmp 31)),(62,2,(.tmp 32)),(64,2,(.tmp 33)),(66,2,(.tmp 34)),(68,2,(.tmp 35)),(70,2,(.tmp 36)),(72,2,(.tmp 37)),(74,2,(.tmp 38)),(76,2,(.tmp 39)),(78,2,(.tmp 40)),(80,2,(.tmp 41)),(82,2,(.tmp 42)),(84,2,(.tmp 43)),(86,2,(.tmp 44)),(88,2,(.tmp 45)),(90,2,(.tmp 46)),(92,2,(.tmp 47)),(94,2,(.tmp 48)),(96,2,(.tmp 49)),(98,2,(.tmp 50)),(100,2,(.tmp 51)),(102,2,(.tmp 52)),(104,2,(.tmp 53)),(106,2,(.tmp 54)),(108,2,(.tmp 55)),(110,2,(.tmp 56)),(112,2,(.tmp 57)),(114,2,(.tmp 58)),(116,2,(.tmp 59)),(118,2,(.tmp 60)),(120,2,(.tmp 61)),(122,2,(.tmp 62)),(124,2,(.tmp 63)),(126,2,(.tmp 64)),(128,2,(.tmp 65)),(130,2,(.tmp 66)),(132,2,(.tmp 67)),(134,2,(.tmp 68)),(136,2,(.tmp 69)),(138,2,(.tmp 70)),(140,2,(.tmp 71)),(142,2,(.tmp 72)),(144,2,(.tmp 73)),(146,2,(.tmp 74))],none⟩,⟨some 0,.mv (.tmp 75),none⟩]) .ret))
def F_tcvn_rows:AFunc:=⟨0,76,[.tmp 0],k_tcvn_rows⟩
theorem ok_tcvn_rows:FOK Tryz.prog 83 F_tcvn_rows:=FOK.of [] Tryz.func83 (by kernel_rfl) (by kernel_rfl)
def b_viet_All_0 : ACode := (.seq (.ops [⟨some 26,.int .lss (.tmp 25) (.const (.int .i64 6)),none⟩]) (.seq (.cond (.tmp 26) .skip (.exit 4)) (.seq (.block 5 (.seq (.ops [⟨some 27,.mv (.tmp 25),none⟩,⟨some 28,.index (.tmp 24) (.tmp 25) 6 false 1,none⟩,⟨some 8,.mv (.tmp 27),none⟩,⟨some 9,.mv (.tmp 28),none⟩]) (.seq (.seq (.ops [⟨some 29,.mv (.tmp 9),none⟩,⟨some 30,.int .eql (.tmp 29) (.const (.int .i64 0)),none⟩]) (.cond (.tmp 30) (.exit 5) .skip)) (.seq (.ops [⟨some 31,.faddr (.tmp 7) 0,none⟩,⟨some 32,.load (.tmp 31) none,none⟩,⟨some 10,.mv (.tmp 32),none⟩]) (.seq (.seq (.ops [⟨some 33,.mv (.tmp 5),none⟩]) (.cond (.tmp 33) (.ops [⟨some 34,.mv (.tmp 10),none⟩,⟨some 35,.call (.func 109) [(.tmp 34)],none⟩,⟨some 36,.mv (.tmp 9),none⟩,⟨some 37,.call (.func 109) [(.tmp 36)],none⟩,⟨some 10,.mv (.tmp 35),none⟩,⟨some 9,.mv (.tmp 37),none⟩]) .skip)) (.seq (.ops [⟨some 38,.mv (.tmp 2),none⟩,⟨some 39,.mv (.tmp 10),none⟩,⟨some 40,.faddr (.tmp 7) 1,none⟩,⟨some 41,.load (.tmp 40) none,none⟩,⟨some 42,.gen ⟨none,(.convert 3 49 (.tmp 41)),49,"",#[],none⟩,none⟩,⟨some 43,.mv (.tmp 8),none⟩,⟨some 44,.gen ⟨none,(.convert 3 49 (.tmp 43)),49,"",#[],none⟩,none⟩,⟨some 45,.gen ⟨none,(.call ⟨.builtin .complex,#[(.tmp 42),(.tmp 44)],#[49,49]⟩),46,"",#[],none⟩,none⟩,⟨some 46,.build [(.int .i64 0),(.complex .f64 0 0)] [(0,1,(.tmp 39)),(1,1,(.tmp 45))],none⟩,⟨some 47,.bslice 154 1 2 [(.int .i64 0),(.complex .f64 0 0)] [(0,2,(.tmp 46))],none⟩,⟨some 48,.append (.tmp 38) (.tmp 47) 154 2 24,none⟩,⟨some 2,.mv (.tmp 48),none⟩]) (.ops [⟨some 49,.mv (.tmp 3),none⟩,⟨some 50,.mv (.tmp 9),none⟩,⟨some 51,.bslice 3 1 1 [(.int .i64 0)] [(0,1,(.tmp 50))],none⟩,⟨some 52,.append (.tmp 49) (.tmp 51) 3 1 8,none⟩,⟨some 3,.mv (.tmp 52),none⟩]))))))) (.ops [⟨some 53,.int .add (.tmp 25) (.const (.int .i64 1)),none⟩,⟨some 25,.mv (.tmp 53),none⟩]))))
def b_viet_All_1:ACode:=(.seq (.ops [⟨some 20,.int .lss (.tmp 19) (.tmp 18),none⟩]) (.seq (.cond (.tmp 20) .skip (.exit 2)) (.seq (.block 3 (.seq (.ops [⟨some 21,.iaddr (.tmp 17) (.tmp 19) 8,none⟩,⟨some 22,.load (.tmp 21) (some 8),none⟩,⟨some 7,.alloc [(.int .i64 0),(.int .i64 0),(.int .i64 0),(.int .i64 0),(.int .i64 0),(.int .i64 0),(.int .i64 0),(.int .i64 0)] 209,none⟩,⟨none,.store (.tmp 7) (.tmp 22) 8,none⟩]) (.seq (.ops [⟨some 23,.faddr (.tmp 7) 2,none⟩,⟨some 24,.load (.tmp 23) (some 6),none⟩,⟨some 25,.mv (.const (.int .i64 0)),none⟩]) (.block 4 (.loop [2,3,5,7,11,12,13,17,18,19,24,25] b_viet_All_0))))) (.ops [⟨some 54,.int .add (.tmp 19) (.const (.int .i64 1)),none⟩,⟨some 19,.mv (.tmp 54),none⟩]))))
def b_viet_All_2:ACode:=(.seq (.ops [⟨some 14,.int .lss (.tmp 13) (.tmp 12),none⟩]) (.seq (.cond (.tmp 14) .skip (.exit 0)) (.seq (.block 1 (.seq (.ops [⟨some 15,.iaddr (.tmp 11) (.tmp 13) 1,none⟩,⟨some 16,.load (.tmp 15) none,none⟩,⟨some 5,.mv (.tmp 16),none⟩]) (.seq (.ops [⟨some 17,.call (.func 108) [],none⟩,⟨some 18,.len false (.tmp 17),none⟩,⟨some 19,.mv (.const (.int .i64 0)),none⟩]) (.block 2 (.loop [2,3,5,11,12,13,17,18,19] b_viet_All_1))))) (.ops [⟨some 55,.int .add (.tmp 13) (.const (.int .i64 1)),none⟩,⟨some 13,.mv (.tmp 55),none⟩]))))
def k_viet_All:ACode:=(.seq (.ops [⟨some 0,.mv (.const (.slice none 0 0)),none⟩,⟨some 1,.mv (.const (.slice none 0 0)),none⟩]) (.seq (.ops [⟨some 2,.mv (.const (.slice none 0 0)),none⟩]) (.seq (.ops [⟨some 3,.mv (.const (.slice none 0 0)),none⟩]) (.seq (.seq (.ops [⟨some 11,.bslice 4 2 1 [(.bool false)] [(0,1,(.const (.bool false))),(1,1,(.const (.bool true)))],none⟩,⟨some 12,.len false (.tmp 11),none⟩,⟨some 13,.mv (.const (.int .i64 0)),none⟩]) (.block 0 (.loop [2,3,11,12,13] b_viet_All_2))) (.seq (.ops [⟨some 56,.mv (.tmp 2),none⟩,⟨some 57,.mv (.tmp 3),none⟩,⟨some 0,.mv (.tmp 56),none⟩,⟨some 1,.mv (.tmp 57),none⟩]) .ret)))))
def F_viet_All:AFunc:=⟨0,58,[.tmp 0,.tmp 1],k_viet_All⟩
theorem ok_viet_All:FOK Tryz.prog 84 F_viet_All:=FOK.of [[2,3,11,12,13],[2,3,5,11,12,13,17,18,19],[2,3,5,7,11,12,13,17,18,19,24,25]] Tryz.func84 (by kernel_rfl) (by kernel_rfl)
def k_vni_Small : ACode := (.seq (.ops [⟨some 1,.box (.tmp 0) 154,none⟩,⟨some 2,.mv (.const (.slice none 0 0)),none⟩]) (.seq (.ops [⟨some 11,.load (.tmp 1) (some 2),none⟩,⟨some 12,.call (.func 110) [(.tmp 11)],none⟩,⟨some 10,.mv (.tmp 12),none⟩,⟨some 13,.ext (.tmp 10) 0,none⟩,⟨some 14,.ext (.tmp 10) 1,none⟩,⟨some 3,.mv (.tmp 13),none⟩,⟨some 4,.mv (.tmp 14),none⟩]) (.seq (.seq (.ops [⟨some 15,.mv (.tmp 4),none⟩,⟨some 16,.not (.tmp 15),none⟩]) (.cond (.tmp 16) (.seq (.ops [⟨some 2,.mv (.const (.slice none 0 0)),none⟩]) .ret) .skip)) (.seq (.seq (.ops [⟨some 17,.mv (.tmp 3),none⟩,⟨some 18,.call (.func 111) [(.tmp 17)],none⟩,⟨some 5,.mv (.tmp 18),none⟩]) (.seq (.ops [⟨some 19,.mv (.tmp 5),none⟩,⟨some 20,.int .gtr (.tmp 19) (.const (.int .i64 0)),none⟩]) (.cond (.tmp 20) (.seq (.ops [⟨some 21,.mv (.tmp 5),none⟩,⟨some 22,.bslice 3 1 1 [(.int .i64 0)] [(0,1,(.tmp 21))],none⟩,⟨some 2,.mv (.tmp 22),none⟩]) .ret) .skip))) (.seq (.draw [⟨some 23,.faddr (.tmp 1) 0,none⟩,⟨some 24,.load (.tmp 23) none,none⟩,⟨some 25,.faddr (.tmp 1) 1,none⟩,⟨some 26,.load (.tmp 25) none,none⟩,⟨some 27,.gen ⟨none,(.call ⟨.builtin .real,#[(.tmp 26)],#[46]⟩),49,"",#[],none⟩,none⟩,⟨some 28,.gen ⟨none,(.convert 49 3 (.tmp 27)),3,"",#[],none⟩,none⟩,⟨some 29,.faddr (.tmp 1) 1,none⟩,⟨some 30,.load (.tmp 29) none,none⟩,⟨some 31,.gen ⟨none,(.call ⟨.builtin .imag,#[(.tmp 30)],#[46]⟩),49,"",#[],none⟩,none⟩,⟨some 32,.gen ⟨none,(.convert 49 3 (.tmp 31)),3,"",#[],none⟩,none⟩,⟨some 6,.mv (.tmp 24),none⟩,⟨some 7,.mv (.tmp 28),none⟩,⟨some 8,.mv (.tmp 32),none⟩]) (.seq (.seq (.ops [⟨some 33,.mv (.tmp 7),none⟩,⟨some 34,.int .eql (.tmp 33) (.const (.int .i64 3)),none⟩]) (.cond (.tmp 34) (.ops [⟨some 35,.mop (.make 211),none⟩,⟨none,.mop (.set (.tmp 35) (.const (.int .i64 111)) (.const (.int .i64 244))),none⟩,⟨none,.mop (.set (.tmp 35) (.const (.int .i64 117)) (.const (.int .i64 246))),none⟩,⟨some 36,.mv (.tmp 35),none⟩,⟨some 37,.mv (.tmp 6),none⟩,⟨some 38,.mop (.get (.tmp 36) (.tmp 37) (.int .i64 0) false),none⟩,⟨some 6,.mv (.tmp 38),none⟩]) .skip)) (.seq (.seq (.ops [⟨some 39,.mv (.tmp 7),none⟩,⟨some 40,.call (.func 112) [(.tmp 39)],none⟩,⟨some 41,.mv (.tmp 8),none⟩,⟨some 42,.index (.tmp 40) (.tmp 41) 6 false 1,none⟩,⟨some 9,.mv (.tmp 42),none⟩]) (.seq (.ops [⟨some 43,.mv (.tmp 9),none⟩,⟨some 44,.int .gtr (.tmp 43) (.const (.int .i64 0)),none⟩]) (.cond (.tmp 44) (.seq (.ops [⟨some 45,.mv (.tmp 6),none⟩,⟨some 46,.mv (.tmp 9),none⟩,⟨some 47,.bslice 3 2 1 [(.int .i64 0)] [(0,1,(.tmp 45)),(1,1,(.tmp 46))],none⟩,⟨some 2,.mv (.tmp 47),none⟩]) .ret) .skip))) (.seq (.ops [⟨some 48,.mv (.tmp 6),none⟩,⟨some 49,.bslice 3 1 1 [(.int .i64 0)] [(0,1,(.tmp 48))],none⟩,⟨some 2,.mv (.tmp 49),none⟩]) .ret))))))))
def F_vni_Small:AFunc:=⟨1,50,[.tmp 2],k_vni_Small⟩
theorem ok_vni_Small:FOK Tryz.prog 85 F_vni_Small:=FOK.of [[0,1,2,3,4,5,6,7,8,9,10,11,12]] Tryz.func85 (by kernel_rfl) (by kernel_rfl)
def k_tamil_one:ACode:=(.seq (.ops [⟨some 4,.alloc [(.slice none 0 0),(.slice none 0 0)] 127,none⟩]) (.seq (.ops [⟨some 5,.mv (.tmp 0),none⟩,⟨some 6,.mv (.tmp 1),none⟩,⟨some 7,.build [(.slice none 0 0),(.slice none 0 0)] [(0,1,(.tmp 5)),(1,1,(.tmp 6))],none⟩,⟨none,.store (.tmp 4) (.tmp 7) 2,none⟩]) .ret))
def F_tamil_one:AFunc:=⟨2,8,[.cell 4 (some 2)],k_tamil_one⟩
theorem ok_tamil_one:FOK Tryz.prog 86 F_tamil_one:=FOK.of [] Tryz.func86 (by kernel_rfl) (by kernel_rfl)
def k_tamil_vowels:ACode:=(.seq (.ops [⟨some 0,.mv (.const (.slice none 0 0)),none⟩]) (.seq (.ops [⟨some 1,.bslice 3 13 1 [(.int .i64 0)] [(0,1,(.const (.int .i64 2949))),(1,1,(.const (.int .i64 2950))),(2,1,(.const (.int .i64 2951))),(3,1,(.const (.int .i64 2952))),(4,1,(.const (.int .i64 2953))),(5,1,(.const (.int .i64 2954))),(6,1,(.const (.int .i64 2958))),(7,1,(.const (.int .i64 2959))),(8,1,(.const (.int .i64 2960))),(9,1,(.const (.int .i64 2962))),(10,1,(.const (.int .i64 2963))),(11,1,(.const (.int .i64 2964))),(12,1,(.const (.int .i64 2947)))],none⟩,⟨some 0,.mv (.tmp 1),none⟩]) .ret))
def F_tamil_vowels:AFunc:=⟨0,2,[.tmp 0],k_tamil_vowels⟩
theorem ok_tamil_vowels:FOK Tryz.prog 87 F_tamil_vowels:=FOK.of [] Tryz.func87 (by kernel_rfl) (by kernel_rfl)
def k_tamil_consonants:ACode:=(.seq (.ops [⟨some 0,.mv (.const (.slice none 0 0)),none⟩]) (.seq (.ops [⟨some 1,.bslice 3 22 1 [(.int .i64 0)] [(0,1,(.const (.int .i64 2965))),(1,1,(.const (.int .i64 2969))),(2,1,(.const (.int .i64 2970))),(3,1,(.const (.int .i64 2974))),(4,1,(.const (.int .i64 2975))),(5,1,(.const (.int .i64 2979))),(6,1,(.const (.int .i64 2980))),(7,1,(.const (.int .i64 2984))),(8,1,(.const (.int .i64 2986))),(9,1,(.const (.int .i64 2990))),(10,1,(.const (.int .i64 2991))),(11,1,(.const (.int .i64 2992))),(12,1,(.const (.int .i64 2994))),(13,1,(.const (.int .i64 2997))),(14,1,(.const (.int .i64 2996))),(15,1,(.const (.int .i64 2995))),(16,1,(.const (.int .i64 2993))),(17,1,(.const (.int .i64 2985))),(18,1,(.const (.int .i64 2972))),(19,1,(.const (.int .i64 2999))),(20,1,(.const (.int .i64 3000))),(21,1,(.const (.int .i64 3001)))],none⟩,⟨some 0,.mv (.tmp 1),none⟩]) .ret))
def F_tamil_consonants:AFunc:=⟨0,2,[.tmp 0],k_tamil_consonants⟩
theorem ok_tamil_consonants:FOK Tryz.prog 88 F_tamil_consonants:=FOK.of [] Tryz.func88 (by kernel_rfl) (by kernel_rfl)
def b_rule_Check_0:ACode:=(.seq (.ops [⟨some 9,.int .lss (.tmp 8) (.tmp 7),none⟩]) (.seq (.cond (.tmp 9) .skip (.exit 0)) (.seq (.block 1 (.seq (.ops [⟨some 10,.mv (.tmp 8),none⟩,⟨some 11,.iaddr (.tmp 6) (.tmp 8) 2,none⟩,⟨some 12,.load (.tmp 11) (some 2),none⟩,⟨some 5,.alloc [(.slice none 0 0),(.slice none 0 0)] 127,none⟩,⟨some 4,.mv (.tmp 10),none⟩,⟨none,.store (.tmp 5) (.tmp 12) 2,none⟩]) (.block 2 (.seq (.ops [⟨some 14,.mv (.tmp 4),none⟩,⟨some 15,.int .geq (.tmp 14) (.const (.int .i64 512)),none⟩,⟨some 13,.mv (.tmp 15),none⟩]) (.cond (.tmp 13) (.seq (.ops [⟨some 16,.mv (.tmp 4),none⟩,⟨some 2,.mv (.tmp 16),none⟩,⟨some 3,.mv (.const (.int .i64 7)),none⟩]) .ret) (.seq (.ops [⟨some 18,.faddr (.tmp 5) 0,none⟩,⟨some 19,.load (.tmp 18) none,none⟩,⟨some 20,.call (.func 113) [(.tmp 19)],none⟩,⟨some 21,.not (.tmp 20),none⟩,⟨some 22,.mv (.tmp 21),none⟩,⟨some 23,.faddr (.tmp 5) 1,some (22,false)⟩,⟨some 24,.load (.tmp 23) none,some (22,false)⟩,⟨some 25,.call (.func 113) [(.tmp 24)],some (22,false)⟩,⟨some 26,.not (.tmp 25),some (22,false)⟩,⟨some 27,.pick (.tmp 22) (.const (.bool true)) (.tmp 26),none⟩,⟨some 17,.mv (.tmp 27),none⟩]) (.cond (.tmp 17) (.seq (.ops [⟨some 28,.mv (.tmp 4),none⟩,⟨some 2,.mv (.tmp 28),none⟩,⟨some 3,.mv (.const (.int .i64 9)),none⟩]) .ret) (.seq (.draw [⟨some 30,.mv (.tmp 0),none⟩,⟨some 31,.mv (.tmp 4),none⟩,⟨some 32,.slice (.tmp 30) none (some (.tmp 31)) 2,none⟩,⟨some 33,.faddr (.tmp 5) 0,none⟩,⟨some 34,.load (.tmp 33) none,none⟩,⟨some 35,.call (.func 91) [(.tmp 32),(.tmp 34)],none⟩,⟨some 36,.int .geq (.tmp 35) (.const (.int .i64 0)),none⟩,⟨some 29,.mv (.tmp 36),none⟩]) (.cond (.tmp 29) (.seq (.ops [⟨some 37,.mv (.tmp 4),none⟩,⟨some 2,.mv (.tmp 37),none⟩,⟨some 3,.mv (.const (.int .i64 8)),none⟩]) .ret) .skip))))))))) (.ops [⟨some 38,.int .add (.tmp 8) (.const (.int .i64 1)),none⟩,⟨some 8,.mv (.tmp 38),none⟩]))))
def k_rule_Check:ACode:=(.seq (.ops [⟨some 2,.mv (.const (.int .i64 0)),none⟩,⟨some 3,.mv (.const (.int .i64 0)),none⟩]) (.seq (.seq (.ops [⟨some 6,.mv (.tmp 0),none⟩,⟨some 7,.len false (.tmp 6),none⟩,⟨some 8,.mv (.const (.int .i64 0)),none⟩]) (.block 0 (.loop [0,6,7,8] b_rule_Check_0))) (.seq (.ops [⟨some 2,.mv (.const (.int .i64 (-1))),none⟩,⟨some 3,.mv (.const (.int .i64 0)),none⟩]) .ret)))
def F_rule_Check:AFunc:=⟨1,39,[.tmp 2,.tmp 3],k_rule_Check⟩
theorem ok_rule_Check:FOK Tryz.prog 89 F_rule_Check:=FOK.of [[0,6,7,8],[0,1,2,3,4,5,6,7]] Tryz.func89 (by kernel_rfl) (by kernel_rfl)
def b_trie_Trie__Step_0:ACode:=(.seq (.seq (.ops [⟨some 28,.mv (.tmp 8),none⟩,⟨some 29,.int .gtr (.tmp 28) (.const (.int .i64 0)),none⟩]) (.cond (.tmp 29) .skip (.exit 0))) (.seq (.block 1 (.seq (.ops [⟨some 38,.mv (.tmp 0),none⟩,⟨some 39,.nilChk (.tmp 38),none⟩,⟨some 40,.faddr (.tmp 39) 0,none⟩,⟨some 41,.load (.tmp 40) none,none⟩,⟨some 42,.mv (.tmp 8),none⟩,⟨some 43,.iaddr (.tmp 41) (.tmp 42) 4,none⟩,⟨some 44,.faddr (.tmp 43) 0,none⟩,⟨some 45,.load (.tmp 44) none,none⟩,⟨some 46,.mv (.tmp 2),none⟩,⟨some 47,.int .eql (.tmp 45) (.tmp 46),none⟩]) (.cond (.tmp 47) (.seq (.ops [⟨some 48,.mv (.tmp 8),none⟩,⟨some 6,.mv (.tmp 48),none⟩,⟨some 7,.mv (.const (.bool true)),none⟩]) .ret) .skip))) (.ops [⟨some 30,.mv (.tmp 0),none⟩,⟨some 31,.nilChk (.tmp 30),none⟩,⟨some 32,.faddr (.tmp 31) 0,none⟩,⟨some 33,.load (.tmp 32) none,none⟩,⟨some 34,.mv (.tmp 8),none⟩,⟨some 35,.iaddr (.tmp 33) (.tmp 34) 4,none⟩,⟨some 36,.faddr (.tmp 35) 2,none⟩,⟨some 37,.load (.tmp 36) none,none⟩,⟨some 8,.mv (.tmp 37),none⟩])))
def k_trie_Trie__Step:ACode:=(.seq (.ops [⟨some 6,.mv (.const (.int .i64 0)),none⟩,⟨some 7,.mv (.const (.bool false)),none⟩]) (.seq (.seq (.ops [⟨some 9,.mv (.tmp 1),none⟩,⟨some 10,.int .lss (.tmp 9) (.const (.int .i64 0)),none⟩,⟨some 11,.mv (.tmp 10),none⟩,⟨some 12,.mv (.tmp 1),some (11,false)⟩,⟨some 13,.mv (.tmp 0),some (11,false)⟩,⟨some 14,.nilChk (.tmp 13),some (11,false)⟩,⟨some 15,.faddr (.tmp 14) 0,some (11,false)⟩,⟨some 16,.load (.tmp 15) none,some (11,false)⟩,⟨some 17,.len false (.tmp 16),some (11,false)⟩,⟨some 18,.int .geq (.tmp 12) (.tmp 17),some (11,false)⟩,⟨some 19,.pick (.tmp 11) (.const (.bool true)) (.tmp 18),none⟩]) (.cond (.tmp 19) (.seq (.ops [⟨some 6,.mv (.const (.int .i64 0)),none⟩,⟨some 7,.mv (.const (.bool false)),none⟩]) .ret) .skip)) (.seq (.seq (.ops [⟨some 20,.mv (.tmp 0),none⟩,⟨some 21,.nilChk (.tmp 20),none⟩,⟨some 22,.faddr (.tmp 21) 0,none⟩,⟨some 23,.load (.tmp 22) none,none⟩,⟨some 24,.mv (.tmp 1),none⟩,⟨some 25,.iaddr (.tmp 23) (.tmp 24) 4,none⟩,⟨some 26,.faddr (.tmp 25) 1,none⟩,⟨some 27,.load (.tmp 26) none,none⟩,⟨some 8,.mv (.tmp 27),none⟩]) (.block 0 (.loop [0,2,8] b_trie_Trie__Step_0))) (.seq (.ops [⟨some 6,.mv (.const (.int .i64 0)),none⟩,⟨some 7,.mv (.const (.bool false)),none⟩]) .ret))))
def F_trie_Trie__Step:AFunc:=⟨3,49,[.tmp 6,.tmp 7],k_trie_Trie__Step⟩
theorem ok_trie_Trie__Step:FOK Tryz.prog 90 F_trie_Trie__Step:=FOK.of [[0,2,8]] Tryz.func90 (by kernel_rfl) (by kernel_rfl)
def k_rule_Find:ACode:=(.seq (.ops [⟨some 3,.box (.tmp 1) 34,none⟩,⟨some 4,.mv (.const (.int .i64 0)),none⟩]) (.seq (.ops [⟨some 5,.mv (.tmp 0),none⟩,⟨some 6,.mkfun (.func 115) [] [(.tmp 3)],none⟩,⟨some 7,.call (.func 114) [(.tmp 5),(.tmp 6)],none⟩,⟨some 4,.mv (.tmp 7),none⟩]) .ret))
def F_rule_Find:AFunc:=⟨2,8,[.tmp 4],k_rule_Find⟩
theorem ok_rule_Find:FOK Tryz.prog 91 F_rule_Find:=FOK.of [] Tryz.func91 (by kernel_rfl) (by kernel_rfl)
def k_table_used:ACode:=(.seq (.ops [⟨some 3,.box (.tmp 1) 3,none⟩,⟨some 4,.mv (.const (.bool false)),none⟩]) (.seq (.ops [⟨some 5,.mv (.tmp 0),none⟩,⟨some 6,.mkfun (.func 118) [] [(.tmp 3)],none⟩,⟨some 7,.call (.func 117) [(.tmp 5),(.tmp 6)],none⟩,⟨some 4,.mv (.tmp 7),none⟩]) .ret))
def F_table_used:AFunc:=⟨2,8,[.tmp 4],k_table_used⟩
theorem ok_table_used:FOK Tryz.prog 92 F_table_used:=FOK.of [] Tryz.func92 (by kernel_rfl) (by kernel_rfl)
def k_slices_Clone___int_int_:ACode:=(.seq (.ops [⟨some 2,.mv (.const (.slice none 0 0)),none⟩]) (.seq (.seq (.ops [⟨some 3,.mv (.tmp 0),none⟩,⟨some 4,.isNil 1 false (.tmp 3),none⟩]) (.cond (.tmp 4) (.seq (.ops [⟨some 2,.mv (.const (.slice none 0 0)),none⟩]) .ret) .skip)) (.seq (.ops [⟨some 5,.bslice 3 0 1 [(.int .i64 0)] [],none⟩,⟨some 6,.mv (.tmp 0),none⟩,⟨some 7,.append (.tmp 5) (.tmp 6) 3 1 8,none⟩,⟨some 2,.mv (.tmp 7),none⟩]) .ret)))
def F_slices_Clone___int_int_:AFunc:=⟨1,8,[.tmp 2],k_slices_Clone___int_int_⟩
theorem ok_slices_Clone___int_int_:FOK Tryz.prog 93 F_slices_Clone___int_int_:=FOK.of [] Tryz.func93 (by kernel_rfl) (by kernel_rfl)
def b_slices_Index___string_string__0 : ACode := (.seq (.ops [⟨some 9,.int .lss (.tmp 8) (.tmp 7),none⟩]) (.seq (.cond (.tmp 9) .skip (.exit 0)) (.seq (.block 1 (.seq (.ops [⟨some 10,.mv (.tmp 8),none⟩,⟨some 5,.mv (.tmp 10),none⟩]) (.seq (.ops [⟨some 11,.mv (.tmp 1),none⟩,⟨some 12,.mv (.tmp 0),none⟩,⟨some 13,.mv (.tmp 5),none⟩,⟨some 14,.iaddr (.tmp 12) (.tmp 13) 1,none⟩,⟨some 15,.load (.tmp 14) none,none⟩,⟨some 16,.gen ⟨none,(.binOp .eql 9 (.tmp 11) (.tmp 15) 9),4,"",#[],none⟩,none⟩]) (.cond (.tmp 16) (.seq (.ops [⟨some 17,.mv (.tmp 5),none⟩,⟨some 4,.mv (.tmp 17),none⟩]) .ret) .skip)))) (.ops [⟨some 18,.int .add (.tmp 8) (.const (.int .i64 1)),none⟩,⟨some 8,.mv (.tmp 18),none⟩]))))
def k_slices_Index___string_string_:ACode:=(.seq (.ops [⟨some 4,.mv (.const (.int .i64 0)),none⟩]) (.seq (.seq (.ops [⟨some 6,.mv (.tmp 0),none⟩,⟨some 7,.len false (.tmp 6),none⟩,⟨some 8,.mv (.const (.int .i64 0)),none⟩]) (.block 0 (.loop [0,1,7,8] b_slices_Index___string_string__0))) (.seq (.ops [⟨some 4,.mv (.const (.int .i64 (-1))),none⟩]) .ret)))
def F_slices_Index___string_string_:AFunc:=⟨2,19,[.tmp 4],k_slices_Index___string_string_⟩
theorem ok_slices_Index___string_string_:FOK Tryz.prog 100 F_slices_Index___string_string_:=FOK.of [[0,1,7,8]] Tryz.func100 (by kernel_rfl) (by kernel_rfl)
def b_indic_Rules_0:ACode:=(.seq (.ops [⟨some 10,.int .lss (.tmp 9) (.const (.int .i64 128)),none⟩]) (.seq (.cond (.tmp 10) .skip (.exit 0)) (.seq (.block 1 (.seq (.ops [⟨some 11,.mv (.tmp 9),none⟩,⟨some 2,.mv (.tmp 11),none⟩]) (.ops [⟨some 12,.mv (.tmp 1),none⟩,⟨some 13,.mv (.tmp 2),none⟩,⟨some 14,.bslice 3 1 1 [(.int .i64 0)] [(0,1,(.tmp 13))],none⟩,⟨some 15,.mv (.tmp 2),none⟩,⟨some 16,.int .add (.const (.int .i64 8192)) (.tmp 15),none⟩,⟨some 17,.bslice 3 1 1 [(.int .i64 0)] [(0,1,(.tmp 16))],none⟩,⟨some 18,.build [(.slice none 0 0),(.slice none 0 0)] [(0,1,(.tmp 14)),(1,1,(.tmp 17))],none⟩,⟨some 19,.bslice 127 1 2 [(.slice none 0 0),(.slice none 0 0)] [(0,2,(.tmp 18))],none⟩,⟨some 20,.append (.tmp 12) (.tmp 19) 127 2 48,none⟩,⟨some 1,.mv (.tmp 20),none⟩]))) (.ops [⟨some 21,.int .add (.tmp 9) (.const (.int .i64 1)),none⟩,⟨some 9,.mv (.tmp 21),none⟩]))))
def b_indic_Rules_1:ACode:=(.seq (.seq (.ops [⟨some 22,.mv (.tmp 3),none⟩,⟨some 23,.int .leq (.tmp 22) (.const (.int .i64 250)),none⟩]) (.cond (.tmp 23) .skip (.exit 2))) (.seq (.block 3 (.seq (.ops [⟨some 27,.mv (.tmp 3),none⟩,⟨some 28,.conv .u8 (.tmp 27),none⟩,⟨some 29,.call (.func 126) [(.tmp 28)],none⟩,⟨some 26,.mv (.tmp 29),none⟩,⟨some 30,.ext (.tmp 26) 0,none⟩,⟨some 31,.ext (.tmp 26) 1,none⟩,⟨some 4,.mv (.tmp 30),none⟩,⟨some 5,.mv (.tmp 31),none⟩]) (.seq (.ops [⟨some 32,.mv (.tmp 5),none⟩]) (.cond (.tmp 32) (.ops [⟨some 33,.mv (.tmp 1),none⟩,⟨some 34,.mv (.tmp 3),none⟩,⟨some 35,.bslice 3 1 1 [(.int .i64 0)] [(0,1,(.tmp 34))],none⟩,⟨some 36,.mv (.tmp 4),none⟩,⟨some 37,.bslice 3 1 1 [(.int .i64 0)] [(0,1,(.tmp 36))],none⟩,⟨some 38,.build [(.slice none 0 0),(.slice none 0 0)] [(0,1,(.tmp 35)),(1,1,(.tmp 37))],none⟩,⟨some 39,.bslice 127 1 2 [(.slice none 0 0),(.slice none 0 0)] [(0,2,(.tmp 38))],none⟩,⟨some 40,.append (.tmp 33) (.tmp 39) 127 2 48,none⟩,⟨some 1,.mv (.tmp 40),none⟩]) .skip)))) (.ops [⟨some 24,.mv (.tmp 3),none⟩,⟨some 25,.int .add (.tmp 24) (.const (.int .i64 1)),none⟩,⟨some 3,.mv (.tmp 25),none⟩])))
def b_indic_Rules_2:ACode:=(.seq (.ops [⟨some 44,.int .lss (.tmp 43) (.tmp 42),none⟩]) (.seq (.cond (.tmp 44) .skip (.exit 4)) (.seq (.block 5 (.seq (.ops [⟨some 45,.iaddr (.tmp 41) (.tmp 43) 2,none⟩,⟨some 46,.load (.tmp 45) (some 2),none⟩,⟨some 7,.alloc [(.int .i64 0),(.int .i64 0)] 162,none⟩,⟨none,.store (.tmp 7) (.tmp 46) 2,none⟩]) (.ops [⟨some 47,.mv (.tmp 1),none⟩,⟨some 48,.aaddr (.tmp 7) (.const (.int .i64 0)) 2 1,none⟩,⟨some 49,.load (.tmp 48) none,none⟩,⟨some 50,.bslice 3 2 1 [(.int .i64 0)] [(0,1,(.tmp 49)),(1,1,(.const (.int .i64 233)))],none⟩,⟨some 51,.aaddr (.tmp 7) (.const (.int .i64 1)) 2 1,none⟩,⟨some 52,.load (.tmp 51) none,none⟩,⟨some 53,.bslice 3 1 1 [(.int .i64 0)] [(0,1,(.tmp 52))],none⟩,⟨some 54,.build [(.slice none 0 0),(.slice none 0 0)] [(0,1,(.tmp 50)),(1,1,(.tmp 53))],none⟩,⟨some 55,.bslice 127 1 2 [(.slice none 0 0),(.slice none 0 0)] [(0,2,(.tmp 54))],none⟩,⟨some 56,.append (.tmp 47) (.tmp 55) 127 2 48,none⟩,⟨some 1,.mv (.tmp 56),none⟩]))) (.ops [⟨some 57,.int .add (.tmp 43) (.const (.int .i64 1)),none⟩,⟨some 43,.mv (.tmp 57),none⟩]))))
def b_indic_Rules_3:ACode:=(.seq (.ops [⟨some 59,.int .lss (.tmp 58) (.const (.int .i64 9)),none⟩]) (.seq (.cond (.tmp 59) .skip (.exit 6)) (.seq (.block 7 (.seq (.ops [⟨some 60,.mv (.tmp 58),none⟩,⟨some 8,.mv (.tmp 60),none⟩]) (.ops [⟨some 61,.mv (.tmp 1),none⟩,⟨some 62,.mv (.tmp 8),none⟩,⟨some 63,.call (.func 128) [(.tmp 62)],none⟩,⟨some 64,.bslice 3 2 1 [(.int .i64 0)] [(0,1,(.const (.int .i64 239))),(1,1,(.tmp 63))],none⟩,⟨some 65,.mv (.tmp 8),none⟩,⟨some 66,.int .add (.const (.int .i64 4096)) (.tmp 65),none⟩,⟨some 67,.bslice 3 1 1 [(.int .i64 0)] [(0,1,(.tmp 66))],none⟩,⟨some 68,.build [(.slice none 0 0),(.slice none 0 0)] [(0,1,(.tmp 64)),(1,1,(.tmp 67))],none⟩,⟨some 69,.bslice 127 1 2 [(.slice none 0 0),(.slice none 0 0)] [(0,2,(.tmp 68))],none⟩,⟨some 70,.append (.tmp 61) (.tmp 69) 127 2 48,none⟩,⟨some 1,.mv (.tmp 70),none⟩]))) (.ops [⟨some 71,.int .add (.tmp 58) (.const (.int .i64 1)),none⟩,⟨some 58,.mv (.tmp 71),none⟩]))))
def k_indic_Rules:ACode:=(.seq (.ops [⟨some 0,.mv (.const (.slice none 0 0)),none⟩]) (.seq (.ops [⟨some 1,.mv (.const (.slice none 0 0)),none⟩]) (.seq (.seq (.ops [⟨some 9,.mv (.const (.int .i64 0)),none⟩]) (.block 0 (.loop [1,9] b_indic_Rules_0))) (.seq (.seq (.ops [⟨some 3,.mv (.const (.int .i64 161)),none⟩]) (.block 2 (.loop [1,3] b_indic_Rules_1))) (.seq (.seq (.ops [⟨some 41,.call (.func 127) [],none⟩,⟨some 42,.len false (.tmp 41),none⟩,⟨some 43,.mv (.const (.int .i64 0)),none⟩]) (.block 4 (.loop [1,41,42,43] b_indic_Rules_2))) (.seq (.seq (.ops [⟨some 58,.mv (.const (.int .i64 0)),none⟩]) (.block 6 (.loop [1,58] b_indic_Rules_3))) (.seq (.ops [⟨some 72,.mv (.tmp 1),none⟩,⟨some 73,.bslice 3 1 1 [(.int .i64 0)] [(0,1,(.const (.int .i64 217)))],none⟩,⟨some 74,.bslice 3 1 1 [(.int .i64 0)] [(0,1,(.const (.int .i64 16397)))],none⟩,⟨some 75,.build [(.slice none 0 0),(.slice none 0 0)] [(0,1,(.tmp 73)),(1,1,(.tmp 74))],none⟩,⟨some 76,.bslice 3 1 1 [(.int .i64 0)] [(0,1,(.const (.int .i64 234)))],none⟩,⟨some 77,.bslice 3 1 1 [(.int .i64 0)] [(0,1,(.const (.int .i64 10596)))],none⟩,⟨some 78,.build [(.slice none 0 0),(.slice none 0 0)] [(0,1,(.tmp 76)),(1,1,(.tmp 77))],none⟩,⟨some 79,.bslice 3 2 1 [(.int .i64 0)] [(0,1,(.const (.int .i64 234))),(1,1,(.const (.int .i64 233)))],none⟩,⟨some 80,.bslice 3 1 1 [(.int .i64 0)] [(0,1,(.const (.int .i64 61)))],none⟩,⟨some 81,.build [(.slice none 0 0),(.slice none 0 0)] [(0,1,(.tmp 79)),(1,1,(.tmp 80))],none⟩,⟨some 82,.bslice 3 2 1 [(.int .i64 0)] [(0,1,(.const (.int .i64 232))),(1,1,(.const (.int .i64 232)))],none⟩,⟨some 83,.bslice 3 2 1 [(.int .i64 0)] [(0,1,(.const (.int .i64 77))),(1,1,(.const (.int .i64 16396)))],none⟩,⟨some 84,.build [(.slice none 0 0),(.slice none 0 0)] [(0,1,(.tmp 82)),(1,1,(.tmp 83))],none⟩,⟨some 85,.bslice 3 2 1 [(.int .i64 0)] [(0,1,(.const (.int .i64 232))),(1,1,(.const (.int .i64 233)))],none⟩,⟨some 86,.bslice 3 2 1 [(.int .i64 0)] [(0,1,(.const (.int .i64 77))),(1,1,(.const (.int .i64 16397)))],none⟩,⟨some 87,.build [(.slice none 0 0),(.slice none 0 0)] [(0,1,(.tmp 85)),(1,1,(.tmp 86))],none⟩,⟨some 88,.bslice 3 2 1 [(.int .i64 0)] [(0,1,(.const (.int .i64 240))),(1,1,(.const (.int .i64 184)))],none⟩,⟨some 89,.bslice 3 1 1 [(.int .i64 0)] [(0,1,(.const (.int .i64 82)))],none⟩,⟨some 90,.build [(.slice none 0 0),(.slice none 0 0)] [(0,1,(.tmp 88)),(1,1,(.tmp 89))],none⟩,⟨some 91,.bslice 3 2 1 [(.int .i64 0)] [(0,1,(.const (.int .i64 240))),(1,1,(.const (.int .i64 191)))],none⟩,⟨some 92,.bslice 3 1 1 [(.int .i64 0)] [(0,1,(.const (.int .i64 112)))],none⟩,⟨some 93,.build [(.slice none 0 0),(.slice none 0 0)] [(0,1,(.tmp 91)),(1,1,(.tmp 92))],none⟩,⟨some 94,.bslice 127 7 2 [(.slice none 0 0),(.slice none 0 0)] [(0,2,(.tmp 75)),(2,2,(.tmp 78)),(4,2,(.tmp 81)),(6,2,(.tmp 84)),(8,2,(.tmp 87)),(10,2,(.tmp 90)),(12,2,(.tmp 93))],none⟩,⟨some 95,.append (.tmp 72) (.tmp 94) 127 2 48,none⟩,⟨some 0,.mv (.tmp 95),none⟩]) .ret)))))))
def F_indic_Rules:AFunc:=⟨0,96,[.tmp 0],k_indic_Rules⟩
theorem ok_indic_Rules:FOK Tryz.prog 101 F_indic_Rules:=FOK.of [[1,9],[1,3],[1,41,42,43],[1,58]] Tryz.func101 (by kernel_rfl) (by kernel_rfl)
def k_trie_Trie__Rule:ACode:=(.seq (.ops [⟨some 4,.mv (.const (.int .i64 0)),none⟩]) (.seq (.seq (.ops [⟨some 5,.mv (.tmp 1),none⟩,⟨some 6,.int .lss (.tmp 5) (.const (.int .i64 0)),none⟩,⟨some 7,.mv (.tmp 6),none⟩,⟨some 8,.mv (.tmp 1),some (7,false)⟩,⟨some 9,.mv (.tmp 0),some (7,false)⟩,⟨some 10,.nilChk (.tmp 9),some (7,false)⟩,⟨some 11,.faddr (.tmp 10) 0,some (7,false)⟩,⟨some 12,.load (.tmp 11) none,some (7,false)⟩,⟨some 13,.len false (.tmp 12),some (7,false)⟩,⟨some 14,.int .geq (.tmp 8) (.tmp 13),some (7,false)⟩,⟨some 15,.pick (.tmp 7) (.const (.bool true)) (.tmp 14),none⟩]) (.cond (.tmp 15) (.seq (.ops [⟨some 4,.mv (.const (.int .i64 (-1))),none⟩]) .ret) .skip)) (.seq (.ops [⟨some 16,.mv (.tmp 0),none⟩,⟨some 17,.nilChk (.tmp 16),none⟩,⟨some 18,.faddr (.tmp 17) 0,none⟩,⟨some 19,.load (.tmp 18) none,none⟩,⟨some 20,.mv (.tmp 1),none⟩,⟨some 21,.iaddr (.tmp 19) (.tmp 20) 4,none⟩,⟨some 22,.faddr (.tmp 21) 3,none⟩,⟨some 23,.load (.tmp 22) none,none⟩,⟨some 4,.mv (.tmp 23),none⟩]) .ret)))
def F_trie_Trie__Rule:AFunc:=⟨2,24,[.tmp 4],k_trie_Trie__Rule⟩
theorem ok_trie_Trie__Rule:FOK Tryz.prog 102 F_trie_Trie__Rule:=FOK.of [] Tryz.func102 (by kernel_rfl) (by kernel_rfl)
def k_trie_Trie__Leaf:ACode:=(.seq (.ops [⟨some 4,.mv (.const (.bool false)),none⟩]) (.seq (.ops [⟨some 5,.mv (.tmp 1),none⟩,⟨some 6,.int .lss (.tmp 5) (.const (.int .i64 0)),none⟩,⟨some 7,.mv (.tmp 6),none⟩,⟨some 8,.mv (.tmp 1),some (7,false)⟩,⟨some 9,.mv (.tmp 0),some (7,false)⟩,⟨some 10,.nilChk (.tmp 9),some (7,false)⟩,⟨some 11,.faddr (.tmp 10) 0,some (7,false)⟩,⟨some 12,.load (.tmp 11) none,some (7,false)⟩,⟨some 13,.len false (.tmp 12),some (7,false)⟩,⟨some 14,.int .geq (.tmp 8) (.tmp 13),some (7,false)⟩,⟨some 15,.pick (.tmp 7) (.const (.bool true)) (.tmp 14),none⟩,⟨some 16,.mv (.tmp 15),none⟩,⟨some 17,.mv (.tmp 0),some (16,false)⟩,⟨some 18,.nilChk (.tmp 17),some (16,false)⟩,⟨some 19,.faddr (.tmp 18) 0,some (16,false)⟩,⟨some 20,.load (.tmp 19) none,some (16,false)⟩,⟨some 21,.mv (.tmp 1),some (16,false)⟩,⟨some 22,.iaddr (.tmp 20) (.tmp 21) 4,some (16,false)⟩,⟨some 23,.faddr (.tmp 22) 1,some (16,false)⟩,⟨some 24,.load (.tmp 23) none,some (16,false)⟩,⟨some 25,.int .eql (.tmp 24) (.const (.int .i64 0)),some (16,false)⟩,⟨some 26,.pick (.tmp 16) (.const (.bool true)) (.tmp 25),none⟩,⟨some 4,.mv (.tmp 26),none⟩]) .ret))
def F_trie_Trie__Leaf:AFunc:=⟨2,27,[.tmp 4],k_trie_Trie__Leaf⟩
theorem ok_trie_Trie__Leaf:FOK Tryz.prog 103 F_trie_Trie__Leaf:=FOK.of [] Tryz.func103 (by kernel_rfl) (by kernel_rfl)
def k_viscii_high:ACode:=(.seq (.ops [⟨some 0,.alloc [(.int .i64 0),(.int .i64 0),(.int .i64 0),(.int .i64 0),(.int .i64 0),(.int .i64 0),(.int .i64 0),(.int .i64 0),(.int .i64 0),(.int .i64 0),(.int .i64 0),(.int .i64 0),(.int .i64 0),(.int .i64 0),(.int .i64 0),(.int .i64 0),(.int .i64 0),(.int .i64 0),(.int .i64 0),(.int .i64 0),(.int .i64 0),(.int .i64 0),(.int .i64 0),(.int .i64 0),(.int .i64 0),(.int .i64 0),(.int .i64 0),(.int .i64 0),(.int .i64 0),(.int .i64 0),(.int .i64 0),(.int .i64 0),(.int .i64 0),(.int .i64 0),(.int .i64 0),(.int .i64 0),(.int .i64 0),(.int .i64 0),(.int .i64 0),(.int .i64 0),(.int .i64 0),(.int .i64 0),(.int .i64 0),(.int .i64 0),(.int .i64 0),(.int .i64 0),(.int .i64 0),(.int .i64 0),(.int .i64 0),(.int .i64 0),(.int .i64 0),(.int .i64 0),(.int .i64 0),(.int .i64 0),(.int .i64 0),(.int .i64 0),(.int .i64 0),(.int .i64 0),(.int .i64 0),(.int .i64 0),(.int .i64 0),(.int .i64 0),(.int .i64 0),(.int .i64 0),(.int .i64 0),(.int .i64 0),(.int .i64 0),(.int .i64 0),(.int .i64 0),(.int .i64 0),(.int .i64 0),(.int .i64 0),(.int .i64 0),(.int .i64 0),(.int .i64 0),(.int .i64 0),(.int .i64 0),(.int .i64 0),(.int .i64 0),(.int .i64 0),(.int .i64 0),(.int .i64 0),(.int .i64 0),(.int .i64 0),(.int .i64 0),(.int .i64 0),(.int .i64 0),(.int .i64 0),(.int .i64 0),(.int .i64 0),(.int .i64 0),(.int .i64 0),(.int .i64 0),(.int .i64 0),(.int .i64 0),(.int .i64 0),(.int .i64 0),(.int .i64 0),(.int .i64 0),(.int .i64 0),(.int .i64 0),(.int .i64 0),(.int .i64 0),(.int .i64 0),(.int .i64 0),(.int .i64 0),(.int .i64 0),(.int .i64 0),(.int .i64 0),(.int .i64 0),(.int .i64 0),(.int .i64 0),(.int .i64 0),(.int .i64 0),(.int .i64 0),(.int .i64 0),(.int .i64 0),(.int .i64 0),(.int .i64 0),(.int .i64 0),(.int .i64 0),(.int .i64 0),(.int .i64 0),(.int .i64 0),(.int .i64 0),(.int .i64 0),(.int .i64 0),(.int .i64 0)] 202,none⟩]) (.seq (.ops [⟨some 1,.build [(.int .i64 0),(.int .i64 0),(.int .i64 0),(.int .i64 0),(.int .i64 0),(.int .i64 0),(.int .i64 0),(.int .i64 0),(.int .i64 0),(.int .i64 0),(.int .i64 0),(.int .i64 0),(.int .i64 0),(.int .i64 0),(.int .i64 0),(.int .i64 0),(.int .i64 0),(.int .i64 0),(.int .i64 0),(.int .i64 0),(.int .i64 0),(.int .i64 0),(.int .i64 0),(.int .i64 0),(.int .i64 0),(.int .i64 0),(.int .i64 0),(.int .i64 0),(.int .i64 0),(.int .i64 0),(.int .i64 0),(.int .i64 0),(.int .i64 0),(.int .i64 0),(.int .i64 0),(.int .i64 0),(.int .i64 0),(.int .i64 0),(.int .i64 0),(.int .i64 0),(.int .i64 0),(.int .i64 0),(.int .i64 0),(.int .i64 0),(.int .i64 0),(.int .i64 0),(.int .i64 0),(.int .i64 0),(.int .i64 0),(.int .i64 0),(.int .i64 0),(.int .i64 0),(.int .i64 0),(.int .i64 0),(.int .i64 0),(.int .i64 0),(.int .i64 0),(.int .i64 0),(.int .i64 0),(.int .i64 0),(.int .i64 0),(.int .i64 0),(.int .i64 0),(.int .i64 0),(.int .i64 0),(.int .i64 0),(.int .i64 0),(.int .i64 0),(.int .i64 0),(.int .i64 0),(.int .i64 0),(.int .i64 0),(.int .i64 0),(.int .i64 0),(.int .i64 0),(.int .i64 0),(.int .i64 0),(.int .i64 0),(.int .i64 0),(.int .i64 0),(.int .i64 0),(.int .i64 0),(.int .i64 0),(.int .i64 0),(.int .i64 0),(.int .i64 0),(.int .i64 0),(.int .i64 0),(.int .i64 0),(.int .i64 0),(.int .i64 0),(.int .i64 0),(.int .i64 0),(.int .i64 0),(.int .i64 0),(.int .i64 0),(.int .i64 0),(.int .i64 0),(.int .i64 0),(.int .i64 0),(.int .i64 0),(.int .i64 0),(.int .i64 0),(.int .i64 0),(.int .i64 0),(.int .i64 0),(.int .i64 0),(.int .i64 0),(.int .i64 0),(.int .i64 0),(.int .i64 0),(.int .i64 0),(.int .i64 0),(.int .i64 0),(.int .i64 0),(.int .i64 0),(.int .i64 0),(.int .i64 0),(.int .i64 0),(.int .i64 0),(.int .i64 0),(.int .i64 0),(.int .i64 0),(.int .i64 0),(.int .i64 0),(.int .i64 0),(.int .i64 0),(.int .i64 0)] [(0,1,(.const (.int .i64 7840))),(1,1,(.const (.int .i64 7854))),(2,1,(.const (.int .i64 7856))),(3,1,(.const (.int .i64 7862))),(4,1,(.const (.int .i64 7844))),(5,1,(.const (.int .i64 7846))),(6,1,(.const (.int .i64 7848))),(7,1,(.const (.int .i64 7852))),(8,1,(.const (.int .i64 7868))),(9,1,(.const (.int .i64 7864))),(10,1,(.const (.int .i64 7870))),(11,1,(.const (.int .i64 7872))),(12,1,(.const (.int .i64 7874))),(13,1,(.const (.int .i64 7876))),(14,1,(.const (.int .i64 7878))),(15,1,(.const (.int .i64 7888))),(16,1,(.const (.int .i64 7890))),(17,1,(.const (.int .i64 7892))),(18,1,(.const (.int .i64 7894))),(19,1,(.const (.int .i64 7896))),(20,1,(.const (.int .i64 7906))),(21,1,(.const (.int .i64 7898))),(22,1,(.const (.int .i64 7900))),(23,1,(.const (.int .i64 7902))),(24,1,(.const (.int .i64 7882))),(25,1,(.const (.int .i64 7886))),(26,1,(.const (.int .i64 7884))),(27,1,(.const (.int .i64 7880))),(28,1,(.const (.int .i64 7910))),(29,1,(.const (.int .i64 360))),(30,1,(.const (.int .i64 7908))),(31,1,(.const (.int .i64 7922))),(32,1,(.const (.int .i64 213))),(33,1,(.const (.int .i64 7855))),(34,1,(.const (.int .i64 7857))),(35,1,(.const (.int .i64 7863))),(36,1,(.const (.int .i64 7845))),(37,1,(.const (.int .i64 7847))),(38,1,(.const (.int .i64 7849))),(39,1,(.const (.int .i64 7853))),(40,1,(.const (.int .i64 7869))),(41,1,(.const (.int .i64 7865))),(42,1,(.const (.int .i64 7871))),(43,1,(.const (.int .i64 7873))),(44,1,(.const (.int .i64 7875))),(45,1,(.const (.int .i64 7877))),(46,1,(.const (.int .i64 7879))),(47,1,(.const (.int .i64 7889))),(48,1,(.const (.int .i64 7891))),(49,1,(.const (.int .i64 7893))),(50,1,(.const (.int .i64 7895))),(51,1,(.const (.int .i64 7904))),(52,1,(.const (.int .i64 416))),(53,1,(.const (.int .i64 7897))),(54,1,(.const (.int .i64 7901))),(55,1,(.const (.int .i64 7903))),(56,1,(.const (.int .i64 7883))),(57,1,(.const (.int .i64 7920))),(58,1,(.const (.int .i64 7912))),(59,1,(.const (.int .i64 7914))),(60,1,(.const (.int .i64 7916))),(61,1,(.const (.int .i64 417))),(62,1,(.const (.int .i64 7899))),(63,1,(.const (.int .i64 431))),(64,1,(.const (.int .i64 192))),(65,1,(.const (.int .i64 193))),(66,1,(.const (.int .i64 194))),(67,1,(.const (.int .i64 195))),(68,1,(.const (.int .i64 7842))),(69,1,(.const (.int .i64 258))),(70,1,(.const (.int .i64 7859))),(71,1,(.const (.int .i64 7861))),(72,1,(.const (.int .i64 200))),(73,1,(.const (.int .i64 201))),(74,1,(.const (.int .i64 202))),(75,1,(.const (.int .i64 7866))),(76,1,(.const (.int .i64 204))),(77,1,(.const (.int .i64 205))),(78,1,(.const (.int .i64 296))),(79,1,(.const (.int .i64 7923))),(80,1,(.const (.int .i64 272))),(81,1,(.const (.int .i64 7913))),(82,1,(.const (.int .i64 210))),(83,1,(.const (.int .i64 211))),(84,1,(.const (.int .i64 212))),(85,1,(.const (.int .i64 7841))),(86,1,(.const (.int .i64 7927))),(87,1,(.const (.int .i64 7915))),(88,1,(.const (.int .i64 7917))),(89,1,(.const (.int .i64 217))),(90,1,(.const (.int .i64 218))),(91,1,(.const (.int .i64 7929))),(92,1,(.const (.int .i64 7925))),(93,1,(.const (.int .i64 221))),(94,1,(.const (.int .i64 7905))),(95,1,(.const (.int .i64 432))),(96,1,(.const (.int .i64 224))),(97,1,(.const (.int .i64 225))),(98,1,(.const (.int .i64 226))),(99,1,(.const (.int .i64 227))),(100,1,(.const (.int .i64 7843))),(101,1,(.const (.int .i64 259))),(102,1,(.const (.int .i64 7919))),(103,1,(.const (.int .i64 7851))),(104,1,(.const (.int .i64 232))),(105,1,(.const (.int .i64 233))),(106,1,(.const (.int .i64 234))),(107,1,(.const (.int .i64 7867))),(108,1,(.const (.int .i64 236))),(109,1,(.const (.int .i64 237))),(110,1,(.const (.int .i64 297))),(111,1,(.const (.int .i64 7881))),(112,1,(.const (.int .i64 273))),(113,1,(.const (.int .i64 7921))),(114,1,(.const (.int .i64 242))),(115,1,(.const (.int .i64 243))),(116,1,(.const (.int .i64 244))),(117,1,(.const (.int .i64 245))),(118,1,(.const (.int .i64 7887))),(119,1,(.const (.int .i64 7885))),(120,1,(.const (.int .i64 7909))),(121,1,(.const (.int .i64 249))),(122,1,(.const (.int .i64 250))),(123,1,(.const (.int .i64 361))),(124,1,(.const (.int .i64 7911))),(125,1,(.const (.int .i64 253))),(126,1,(.const (.int .i64 7907))),(127,1,(.const (.int .i64 7918)))],none⟩,⟨none,.store (.tmp 0) (.tmp 1) 128,none⟩]) .ret))
def F_viscii_high:AFunc:=⟨0,2,[.cell 0 (some 128)],k_viscii_high⟩
theorem ok_viscii_high:FOK Tryz.prog 107 F_viscii_high:=FOK.of [] Tryz.func107 (by kernel_rfl) (by kernel_rfl)
def k_viet_rows:ACode:=(.seq (.ops [⟨some 0,.mv (.const (.slice none 0 0)),none⟩]) (.seq (.ops [⟨some 1,.build [(.int .i64 0),(.int .i64 0),(.int .i64 0),(.int .i64 0),(.int .i64 0),(.int .i64 0)] [(0,1,(.const (.int .i64 97))),(1,1,(.const (.int .i64 224))),(2,1,(.const (.int .i64 225))),(3,1,(.const (.int .i64 7843))),(4,1,(.const (.int .i64 227))),(5,1,(.const (.int .i64 7841)))],none⟩,⟨some 2,.build [(.int .i64 0),(.int .i64 0),(.int .i64 0),(.int .i64 0),(.int .i64 0),(.int .i64 0),(.int .i64 0),(.int .i64 0)] [(0,1,(.const (.int .i64 97))),(1,1,(.const (.int .i64 0))),(2,6,(.tmp 1))],none⟩,⟨some 3,.build [(.int .i64 0),(.int .i64 0),(.int .i64 0),(.int .i64 0),(.int .i64 0),(.int .i64 0)] [(0,1,(.const (.int .i64 259))),(1,1,(.const (.int .i64 7857))),(2,1,(.const (.int .i64 7855))),(3,1,(.const (.int .i64 7859))),(4,1,(.const (.int .i64 7861))),(5,1,(.const (.int .i64 7863)))],none⟩,⟨some 4,.build [(.int .i64 0),(.int .i64 0),(.int .i64 0),(.int .i64 0),(.int .i64 0),(.int .i64 0),(.int .i64 0),(.int .i64 0)] [(0,1,(.const (.int .i64 97))),(1,1,(.const (.int .i64 1))),(2,6,(.tmp 3))],none⟩,⟨some 5,.build [(.int .i64 0),(.int .i64 0),(.int .i64 0),(.int .i64 0),(.int .i64 0),(.int .i64 0)] [(0,1,(.const (.int .i64 226))),(1,1,(.const (.int .i64 7847))),(2,1,(.const (.int .i64 7845))),(3,1,(.const (.int .i64 7849))),(4,1,(.const (.int .i64 7851))),(5,1,(.const (.int .i64 7853)))],none⟩,⟨some 6,.build [(.int .i64 0),(.int .i64 0),(.int .i64 0),(.int .i64 0),(.int .i64 0),(.int .i64 0),(.int .i64 0),(.int .i64 0)] [(0,1,(.const (.int .i64 97))),(1,1,(.const (.int .i64 2))),(2,6,(.tmp 5))],none⟩,⟨some 7,.build [(.int .i64 0),(.int .i64 0),(.int .i64 0),(.int .i64 0),(.int .i64 0),(.int .i64 0)] [(0,1,(.const (.int .i64 101))),(1,1,(.const (.int .i64 232))),(2,1,(.const (.int .i64 233))),(3,1,(.const (.int .i64 7867))),(4,1,(.const (.int .i64 7869))),(5,1,(.const (.int .i64 7865)))],none⟩,⟨some 8,.build [(.int .i64 0),(.int .i64 0),(.int .i64 0),(.int .i64 0),(.int .i64 0),(.int .i64 0),(.int .i64 0),(.int .i64 0)] [(0,1,(.const (.int .i64 101))),(1,1,(.const (.int .i64 0))),(2,6,(.tmp 7))],none⟩,⟨some 9,.build [(.int .i64 0),(.int .i64 0),(.int .i64 0),(.int .i64 0),(.int .i64 0),(.int .i64 0)] [(0,1,(.const (.int .i64 234))),(1,1,(.const (.int .i64 7873))),(2,1,(.const (.int .i64 7871))),(3,1,(.const (.int .i64 7875))),(4,1,(.const (.int .i64 7877))),(5,1,(.const (.int .i64 7879)))],none⟩,⟨some 10,.build [(.int .i64 0),(.int .i64 0),(.int .i64 0),(.int .i64 0),(.int .i64 0),(.int .i64 0),(.int .i64 0),(.int .i64 0)] [(0,1,(.const (.int .i64 101))),(1,1,(.const (.int .i64 2))),(2,6,(.tmp 9))],none⟩,⟨some 11,.build [(.int .i64 0),(.int .i64 0),(.int .i64 0),(.int .i64 0),(.int .i64 0),(.int .i64 0)] [(0,1,(.const (.int .i64 105))),(1,1,(.const (.int .i64 236))),(2,1,(.const (.int .i64 237))),(3,1,(.const (.int .i64 7881))),(4,1,(.const (.int .i64 297))),(5,1,(.const (.int .i64 7883)))],none⟩,⟨some 12,.build [(.int .i64 0),(.int .i64 0),(.int .i64 0),(.int .i64 0),(.int .i64 0),(.int .i64 0),(.int .i64 0),(.int .i64 0)] [(0,1,(.const (.int .i64 105))),(1,1,(.const (.int .i64 0))),(2,6,(.tmp 11))],none⟩,⟨some 13,.build [(.int .i64 0),(.int .i64 0),(.int .i64 0),(.int .i64 0),(.int .i64 0),(.int .i64 0)] [(0,1,(.const (.int .i64 111))),(1,1,(.const (.int .i64 242))),(2,1,(.const (.int .i64 243))),(3,1,(.const (.int .i64 7887))),(4,1,(.const (.int .i64 245))),(5,1,(.const (.int .i64 7885)))],none⟩,⟨some 14,.build [(.int .i64 0),(.int .i64 0),(.int .i64 0),(.int .i64 0),(.int .i64 0),(.int .i64 0),(.int .i64 0),(.int .i64 0)] [(0,1,(.const (.int .i64 111))),(1,1,(.const (.int .i64 0))),(2,6,(.tmp 13))],none⟩,⟨some 15,.build [(.int .i64 0),(.int .i64 0),(.int .i64 0),(.int .i64 0),(.int .i64 0),(.int .i64 0)] [(0,1,(.const (.int .i64 244))),(1,1,(.const (.int .i64 7891))),(2,1,(.const (.int .i64 7889))),(3,1,(.const (.int .i64 7893))),(4,1,(.const (.int .i64 7895))),(5,1,(.const (.int .i64 7897)))],none⟩,⟨some 16,.build [(.int .i64 0),(.int .i64 0),(.int .i64 0),(.int .i64 0),(.int .i64 0),(.int .i64 0),(.int .i64 0),(.int .i64 0)] [(0,1,(.const (.int .i64 111))),(1,1,(.const (.int .i64 2))),(2,6,(.tmp 15))],none⟩,⟨some 17,.build [(.int .i64 0),(.int .i64 0),(.int .i64 0),(.int .i64 0),(.int .i64 0),(.int .i64 0)] [(0,1,(.const (.int .i64 417))),(1,1,(.const (.int .i64 7901))),(2,1,(.const (.int .i64 7899))),(3,1,(.const (.int .i64 7903))),(4,1,(.const (.int .i64 7905))),(5,1,(.const (.int .i64 7907)))],none⟩,⟨some 18,.build [(.int .i64 0),(.int .i64 0),(.int .i64 0),(.int .i64 0),(.int .i64 0),(.int .i64 0),(.int .i64 0),(.int .i64 0)] [(0,1,(.const (.int .i64 111))),(1,1,(.const (.int .i64 3))),(2,6,(.tmp 17))],none⟩,⟨some 19,.build [(.int .i64 0),(.int .i64 0),(.int .i64 0),(.int .i64 0),(.int .i64 0),(.int .i64 0)] [(0,1,(.const (.int .i64 117))),(1,1,(.const (.int .i64 249))),(2,1,(.const (.int .i64 250))),(3,1,(.const (.int .i64 7911))),(4,1,(.const (.int .i64 361))),(5,1,(.const (.int .i64 7909)))],none⟩,⟨some 20,.build [(.int .i64 0),(.int .i64 0),(.int .i64 0),(.int .i64 0),(.int .i64 0),(.int .i64 0),(.int .i64 0),(.int .i64 0)] [(0,1,(.const (.int .i64 117))),(1,1,(.const (.int .i64 0))),(2,6,(.tmp 19))],none⟩,⟨some 21,.build [(.int .i64 0),(.int .i64 0),(.int .i64 0),(.int .i64 0),(.int .i64 0),(.int .i64 0)] [(0,1,(.const (.int .i64 432))),(1,1,(.const (.int .i64 7915))),(2,1,(.const (.int .i64 7913))),(3,1,(.const (.int .i64 7917))),(4,1,(.const (.int .i64 7919))),(5,1,(.const (.int .i64 7921)))],none⟩,⟨some 22,.build [(.int .i64 0),(.int .i64 0),(.int .i64 0),(.int .i64 0),(.int .i64 0),(.int .i64 0),(.int .i64 0),(.int .i64 0)] [(0,1,(.const (.int .i64 117))),(1,1,(.const (.int .i64 3))),(2,6,(.tmp 21))],none⟩,⟨some 23,.build [(.int .i64 0),(.int .i64 0),(.int .i64 0),(.int .i64 0),(.int .i64 0),(.int .i64 0)] [(0,1,(.const (.int .i64 121))),(1,1,(.const (.int .i64 7923))),(2,1,(.const (.int .i64 253))),(3,1,(.const (.int .i64 7927))),(4,1,(.const (.int .i64 7929))),(5,1,(.const (.int .i64 7925)))],none⟩,⟨some 24,.build [(.int .i64 0),(.int .i64 0),(.int .i64 0),(.int .i64 0),(.int .i64 0),(.int .i64 0),(.int .i64 0),(.int .i64 0)] [(0,1,(.const (.int .i64 121))),(1,1,(.const (.int .i64 0))),(2,6,(.tmp 23))],none⟩,⟨some 25,.build [(.int .i64 0),(.int .i64 0),(.int .i64 0),(.int .i64 0),(.int .i64 0),(.int .i64 0)] [(0,1,(.const (.int .i64 100)))],none⟩,⟨some 26,.build [(.int .i64 0),(.int .i64 0),(.int .i64 0),(.int .i64 0),(.int .i64 0),(.int .i64 0),(.int .i64 0),(.int .i64 0)] [(0,1,(.const (.int .i64 100))),(1,1,(.const (.int .i64 0))),(2,6,(.tmp 25))],none⟩,⟨some 27,.build [(.int .i64 0),(.int .i64 0),(.int .i64 0),(.int .i64 0),(.int .i64 0),(.int .i64 0)] [(0,1,(.const (.int .i64 273)))],none⟩,⟨some 28,.build [(.int .i64 0),(.int .i64 0),(.int .i64 0),(.int .i64 0),(.int .i64 0),(.int .i64 0),(.int .i64 0),(.int .i64 0)] [(0,1,(.const (.int .i64 100))),(1,1,(.const (.int .i64 4))),(2,6,(.tmp 27))],none⟩,⟨some 29,.bslice 209 14 8 [(.int .i64 0),(.int .i64 0),(.int .i64 0),(.int .i64 0),(.int .i64 0),(.int .i64 0),(.int .i64 0),(.int .i64 0)] [(0,8,(.tmp 2)),(8,8,(.tmp 4)),(16,8,(.tmp 6)),(24,8,(.tmp 8)),(32,8,(.tmp 10)),(40,8,(.tmp 12)),(48,8,(.tmp 14)),(56,8,(.tmp 16)),(64,8,(.tmp 18)),(72,8,(.tmp 20)),(80,8,(.tmp 22)),(88,8,(.tmp 24)),(96,8,(.tmp 26)),(104,8,(.tmp 28))],none⟩,⟨some 0,.mv (.tmp 29),none⟩]) .ret))
def F_viet_rows:AFunc:=⟨0,30,[.tmp 0],k_viet_rows⟩
theorem ok_viet_rows:FOK Tryz.prog 108 F_viet_rows:=FOK.of [] Tryz.func108 (by kernel_rfl) (by kernel_rfl)
def k_viet_Upper:ACode:=(.seq (.ops [⟨some 2,.mv (.const (.int .i64 0)),none⟩]) (.seq (.block 0 (.seq (.ops [⟨some 4,.mv (.tmp 0),none⟩,⟨some 5,.int .lss (.tmp 4) (.const (.int .i64 256)),none⟩,⟨some 3,.mv (.tmp 5),none⟩]) (.cond (.tmp 3) (.seq (.ops [⟨some 6,.mv (.tmp 0),none⟩,⟨some 7,.int .sub (.tmp 6) (.const (.int .i64 32)),none⟩,⟨some 2,.mv (.tmp 7),none⟩]) .ret) .skip))) (.seq (.ops [⟨some 8,.mv (.tmp 0),none⟩,⟨some 9,.int .sub (.tmp 8) (.const (.int .i64 1)),none⟩,⟨some 2,.mv (.tmp 9),none⟩]) .ret)))
def F_viet_Upper:AFunc:=⟨1,10,[.tmp 2],k_viet_Upper⟩
theorem ok_viet_Upper:FOK Tryz.prog 109 F_viet_Upper:=FOK.of [] Tryz.func109 (by kernel_rfl) (by kernel_rfl)
def b_viet_Join_0 : ACode := (.seq (.ops [⟨some 15,.int .lss (.tmp 14) (.tmp 13),none⟩]) (.seq (.cond (.tmp 15) .skip (.exit 0)) (.seq (.block 1 (.seq (.ops [⟨some 16,.mv (.tmp 14),none⟩,⟨some 17,.iaddr (.tmp 12) (.tmp 14) 2,none⟩,⟨some 18,.load (.tmp 17) (some 2),none⟩,⟨some 7,.alloc [(.int .i64 0),(.complex .f64 0 0)] 154,none⟩,⟨some 6,.mv (.tmp 16),none⟩,⟨none,.store (.tmp 7) (.tmp 18) 2,none⟩]) (.seq (.ops [⟨some 19,.load (.tmp 7) (some 2),none⟩,⟨some 20,.load (.tmp 1) (some 2),none⟩,⟨some 21,.gen ⟨none,(.binOp .eql 154 (.tmp 19) (.tmp 20) 154),4,"",#[],none⟩,none⟩]) (.cond (.tmp 21) (.seq (.ops [⟨some 22,.mv (.tmp 5),none⟩,⟨some 23,.mv (.tmp 6),none⟩,⟨some 24,.iaddr (.tmp 22) (.tmp 23) 1,none⟩,⟨some 25,.load (.tmp 24) none,none⟩,⟨some 2,.mv (.tmp 25),none⟩,⟨some 3,.mv (.const (.bool true)),none⟩]) .ret) .skip)))) (.ops [⟨some 26,.int .add (.tmp 14) (.const (.int .i64 1)),none⟩,⟨some 14,.mv (.tmp 26),none⟩]))))
def k_viet_Join:ACode:=(.seq (.ops [⟨some 1,.box (.tmp 0) 154,none⟩,⟨some 2,.mv (.const (.int .i64 0)),none⟩,⟨some 3,.mv (.const (.bool false)),none⟩]) (.seq (.ops [⟨some 9,.call (.func 84) [],none⟩,⟨some 8,.mv (.tmp 9),none⟩,⟨some 10,.ext (.tmp 8) 0,none⟩,⟨some 11,.ext (.tmp 8) 1,none⟩,⟨some 4,.mv (.tmp 10),none⟩,⟨some 5,.mv (.tmp 11),none⟩]) (.seq (.seq (.ops [⟨some 12,.mv (.tmp 4),none⟩,⟨some 13,.len false (.tmp 12),none⟩,⟨some 14,.mv (.const (.int .i64 0)),none⟩]) (.block 0 (.loop [1,5,12,13,14] b_viet_Join_0))) (.seq (.ops [⟨some 2,.mv (.const (.int .i64 0)),none⟩,⟨some 3,.mv (.const (.bool false)),none⟩]) .ret))))
def F_viet_Join:AFunc:=⟨1,27,[.tmp 2,.tmp 3],k_viet_Join⟩
theorem ok_viet_Join:FOK Tryz.prog 110 F_viet_Join:=FOK.of [[1,5,12,13,14]] Tryz.func110 (by kernel_rfl) (by kernel_rfl)
def k_vni_alone:ACode:=(.seq (.ops [⟨some 2,.mv (.const (.int .i64 0)),none⟩]) (.seq (.seq (.ops [⟨some 3,.mv (.tmp 0),none⟩]) (.block 0 (.seq (.ops [⟨some 5,.int .eql (.tmp 3) (.const (.int .i64 236)),none⟩,⟨some 4,.mv (.tmp 5),none⟩]) (.cond (.tmp 4) (.seq (.ops [⟨some 2,.mv (.const (.int .i64 236)),none⟩]) .ret) (.seq (.ops [⟨some 7,.int .eql (.tmp 3) (.const (.int .i64 237)),none⟩,⟨some 6,.mv (.tmp 7),none⟩]) (.cond (.tmp 6) (.seq (.ops [⟨some 2,.mv (.const (.int .i64 237)),none⟩]) .ret) (.seq (.ops [⟨some 9,.int .eql (.tmp 3) (.const (.int .i64 7881)),none⟩,⟨some 8,.mv (.tmp 9),none⟩]) (.cond (.tmp 8) (.seq (.ops [⟨some 2,.mv (.const (.int .i64 230)),none⟩]) .ret) (.seq (.ops [⟨some 11,.int .eql (.tmp 3) (.const (.int .i64 297)),none⟩,⟨some 10,.mv (.tmp 11),none⟩]) (.cond (.tmp 10) (.seq (.ops [⟨some 2,.mv (.const (.int .i64 243)),none⟩]) .ret) (.seq (.ops [⟨some 13,.int .eql (.tmp 3) (.const (.int .i64 7883)),none⟩,⟨some 12,.mv (.tmp 13),none⟩]) (.cond (.tmp 12) (.seq (.ops [⟨some 2,.mv (.const (.int .i64 242)),none⟩]) .ret) (.seq (.ops [⟨some 15,.int .eql (.tmp 3) (.const (.int .i64 7925)),none⟩,⟨some 14,.mv (.tmp 15),none⟩]) (.cond (.tmp 14) (.seq (.ops [⟨some 2,.mv (.const (.int .i64 238)),none⟩]) .ret) (.seq (.ops [⟨some 17,.int .eql (.tmp 3) (.const (.int .i64 273)),none⟩,⟨some 16,.mv (.tmp 17),none⟩]) (.cond (.tmp 16) (.seq (.ops [⟨some 2,.mv (.const (.int .i64 241)),none⟩]) .ret) .skip)))))))))))))))) (.seq (.ops [⟨some 2,.mv (.const (.int .i64 0)),none⟩]) .ret)))
def F_vni_alone:AFunc:=⟨1,18,[.tmp 2],k_vni_alone⟩
theorem ok_vni_alone:FOK Tryz.prog 111 F_vni_alone:=FOK.of [] Tryz.func111 (by kernel_rfl) (by kernel_rfl)
def k_vni_signs:ACode:=(.seq (.ops [⟨some 2,.alloc [(.int .i64 0),(.int .i64 0),(.int .i64 0),(.int .i64 0),(.int .i64 0),(.int .i64 0)] 207,none⟩]) (.seq (.seq (.ops [⟨some 3,.mv (.tmp 0),none⟩]) (.block 0 (.seq (.ops [⟨some 5,.int .eql (.tmp 3) (.const (.int .i64 1)),none⟩,⟨some 4,.mv (.tmp 5),none⟩]) (.cond (.tmp 4) (.seq (.ops [⟨some 6,.build [(.int .i64 0),(.int .i64 0),(.int .i64 0),(.int .i64 0),(.int .i64 0),(.int .i64 0)] [(0,1,(.const (.int .i64 234))),(1,1,(.const (.int .i64 232))),(2,1,(.const (.int .i64 233))),(3,1,(.const (.int .i64 250))),(4,1,(.const (.int .i64 252))),(5,1,(.const (.int .i64 235)))],none⟩,⟨none,.store (.tmp 2) (.tmp 6) 6,none⟩]) .ret) (.seq (.ops [⟨some 8,.int .eql (.tmp 3) (.const (.int .i64 2)),none⟩,⟨some 7,.mv (.tmp 8),none⟩]) (.cond (.tmp 7) (.seq (.ops [⟨some 9,.build [(.int .i64 0),(.int .i64 0),(.int .i64 0),(.int .i64 0),(.int .i64 0),(.int .i64 0)] [(0,1,(.const (.int .i64 226))),(1,1,(.const (.int .i64 224))),(2,1,(.const (.int .i64 225))),(3,1,(.const (.int .i64 229))),(4,1,(.const (.int .i64 227))),(5,1,(.const (.int .i64 228)))],none⟩,⟨none,.store (.tmp 2) (.tmp 9) 6,none⟩]) .ret) .skip)))))) (.seq (.ops [⟨some 10,.build [(.int .i64 0),(.int .i64 0),(.int .i64 0),(.int .i64 0),(.int .i64 0),(.int .i64 0)] [(0,1,(.const (.int .i64 0))),(1,1,(.const (.int .i64 248))),(2,1,(.const (.int .i64 249))),(3,1,(.const (.int .i64 251))),(4,1,(.const (.int .i64 245))),(5,1,(.const (.int .i64 239)))],none⟩,⟨none,.store (.tmp 2) (.tmp 10) 6,none⟩]) .ret)))
def F_vni_signs:AFunc:=⟨1,11,[.cell 2 (some 6)],k_vni_signs⟩
theorem ok_vni_signs:FOK Tryz.prog 112 F_vni_signs:=FOK.of [] Tryz.func112 (by kernel_rfl) (by kernel_rfl)
def k_rule_side:ACode:=(.seq (.ops [⟨some 2,.mv (.const (.bool false)),none⟩]) (.seq (.ops [⟨some 3,.mv (.tmp 0),none⟩,⟨some 4,.len false (.tmp 3),none⟩,⟨some 5,.int .gtr (.tmp 4) (.const (.int .i64 0)),none⟩,⟨some 6,.mv (.tmp 5),none⟩,⟨some 7,.mv (.tmp 0),some (6,true)⟩,⟨some 8,.len false (.tmp 7),some (6,true)⟩,⟨some 9,.int .leq (.tmp 8) (.const (.int .i64 8)),some (6,true)⟩,⟨some 10,.pick (.tmp 6) (.tmp 9) (.const (.bool false)),none⟩,⟨some 11,.mv (.tmp 10),none⟩,⟨some 12,.mv (.tmp 0),some (11,true)⟩,⟨some 13,.call (.func 130) [(.tmp 12),(.func 131)],some (11,true)⟩,⟨some 14,.not (.tmp 13),some (11,true)⟩,⟨some 15,.pick (.tmp 11) (.tmp 14) (.const (.bool false)),none⟩,⟨some 2,.mv (.tmp 15),none⟩]) .ret))
def F_rule_side:AFunc:=⟨1,16,[.tmp 2],k_rule_side⟩
theorem ok_rule_side:FOK Tryz.prog 113 F_rule_side:=FOK.of [] Tryz.func113 (by kernel_rfl) (by kernel_rfl)
def b_api_Rule__0:ACode:=(.seq (.ops [⟨some 9,.int .lss (.tmp 8) (.tmp 7),none⟩]) (.seq (.cond (.tmp 9) .skip (.exit 0)) (.seq (.block 1 (.seq (.ops [⟨some 10,.mv (.tmp 8),none⟩,⟨some 5,.mv (.tmp 10),none⟩]) (.seq (.ops [⟨some 11,.mv (.tmp 1),none⟩,⟨some 12,.mv (.tmp 0),none⟩,⟨some 13,.mv (.tmp 5),none⟩,⟨some 14,.iaddr (.tmp 12) (.tmp 13) 2,none⟩,⟨some 15,.load (.tmp 14) (some 2),none⟩,⟨some 16,.call (.tmp 11) [(.tmp 15)],none⟩]) (.cond (.tmp 16) (.seq (.ops [⟨some 17,.mv (.tmp 5),none⟩,⟨some 4,.mv (.tmp 17),none⟩]) .ret) .skip)))) (.ops [⟨some 18,.int .add (.tmp 8) (.const (.int .i64 1)),none⟩,⟨some 8,.mv (.tmp 18),none⟩]))))
def k_api_Rule_:ACode:=(.seq (.ops [⟨some 4,.mv (.const (.int .i64 0)),none⟩]) (.seq (.seq (.ops [⟨some 6,.mv (.tmp 0),none⟩,⟨some 7,.len false (.tmp 6),none⟩,⟨some 8,.mv (.const (.int .i64 0)),none⟩]) (.block 0 (.loop [0,1,7,8] b_api_Rule__0))) (.seq (.ops [⟨some 4,.mv (.const (.int .i64 (-1))),none⟩]) .ret)))
def F_api_Rule_:AFunc:=⟨2,19,[.tmp 4],k_api_Rule_⟩
theorem ok_api_Rule_:FOK Tryz.prog 114 F_api_Rule_:=FOK.of [[0,1,7,8]] Tryz.func114 (by kernel_rfl) (by kernel_rfl)
def k_rule_Find_1:ACode:=(.seq (.ops [⟨some 2,.box (.tmp 0) 127,none⟩,⟨some 3,.mv (.const (.bool false)),none⟩]) (.seq (.ops [⟨some 4,.faddr (.tmp 2) 0,none⟩,⟨some 5,.load (.tmp 4) none,none⟩,⟨some 6,.load (.tmp 1) none,none⟩,⟨some 7,.call (.func 116) [(.tmp 5),(.tmp 6)],none⟩,⟨some 3,.mv (.tmp 7),none⟩]) .ret))
def F_rule_Find_1:AFunc:=⟨2,8,[.tmp 3],k_rule_Find_1⟩
theorem ok_rule_Find_1:FOK Tryz.prog 115 F_rule_Find_1:=FOK.of [] Tryz.func115 (by kernel_rfl) (by kernel_rfl)
def b_slices_Equal___int_int__0:ACode:=(.seq (.ops [⟨some 14,.int .lss (.tmp 13) (.tmp 12),none⟩]) (.seq (.cond (.tmp 14) .skip (.exit 0)) (.seq (.block 1 (.seq (.ops [⟨some 15,.mv (.tmp 13),none⟩,⟨some 5,.mv (.tmp 15),none⟩]) (.seq (.draw [⟨some 16,.mv (.tmp 0),none⟩,⟨some 17,.mv (.tmp 5),none⟩,⟨some 18,.iaddr (.tmp 16) (.tmp 17) 1,none⟩,⟨some 19,.load (.tmp 18) none,none⟩,⟨some 20,.mv (.tmp 1),none⟩,⟨some 21,.mv (.tmp 5),none⟩,⟨some 22,.iaddr (.tmp 20) (.tmp 21) 1,none⟩,⟨some 23,.load (.tmp 22) none,none⟩,⟨some 24,.int .neq (.tmp 19) (.tmp 23),none⟩]) (.cond (.tmp 24) (.seq (.ops [⟨some 4,.mv (.const (.bool false)),none⟩]) .ret) .skip)))) (.ops [⟨some 25,.int .add (.tmp 13) (.const (.int .i64 1)),none⟩,⟨some 13,.mv (.tmp 25),none⟩]))))
def k_slices_Equal___int_int_:ACode:=(.seq (.ops [⟨some 4,.mv (.const (.bool false)),none⟩]) (.seq (.seq (.ops [⟨some 6,.mv (.tmp 0),none⟩,⟨some 7,.len false (.tmp 6),none⟩,⟨some 8,.mv (.tmp 1),none⟩,⟨some 9,.len false (.tmp 8),none⟩,⟨some 10,.int .neq (.tmp 7) (.tmp 9),none⟩]) (.cond (.tmp 10) (.seq (.ops [⟨some 4,.mv (.const (.bool false)),none⟩]) .ret) .skip)) (.seq (.seq (.ops [⟨some 11,.mv (.tmp 0),none⟩,⟨some 12,.len false (.tmp 11),none⟩,⟨some 13,.mv (.const (.int .i64 0)),none⟩]) (.block 0 (.loop [0,1,12,13] b_slices_Equal___int_int__0))) (.seq (.ops [⟨some 4,.mv (.const (.bool true)),none⟩]) .ret))))
def F_slices_Equal___int_int_:AFunc:=⟨2,26,[.tmp 4],k_slices_Equal___int_int_⟩
theorem ok_slices_Equal___int_int_:FOK Tryz.prog 116 F_slices_Equal___int_int_:=FOK.of [[0,1,12,13],[0,1,2,3,4,5,6,7,8]] Tryz.func116 (by kernel_rfl) (by kernel_rfl)
def k_table_used_1:ACode:=(.seq (.ops [⟨some 2,.box (.tmp 0) 127,none⟩,⟨some 3,.mv (.const (.bool false)),none⟩]) (.seq (.draw [⟨some 4,.faddr (.tmp 2) 0,none⟩,⟨some 5,.load (.tmp 4) none,none⟩,⟨some 6,.faddr (.tmp 2) 0,none⟩,⟨some 7,.load (.tmp 6) none,none⟩,⟨some 8,.len false (.tmp 7),none⟩,⟨some 9,.int .sub (.tmp 8) (.const (.int .i64 1)),none⟩,⟨some 10,.iaddr (.tmp 5) (.tmp 9) 1,none⟩,⟨some 11,.load (.tmp 10) none,none⟩,⟨some 12,.load (.tmp 1) none,none⟩,⟨some 13,.int .eql (.tmp 11) (.tmp 12),none⟩,⟨some 3,.mv (.tmp 13),none⟩]) .ret))
def F_table_used_1:AFunc:=⟨2,14,[.tmp 3],k_table_used_1⟩
theorem ok_table_used_1:FOK Tryz.prog 118 F_table_used_1:=FOK.of [[0,1,2,3,4,5,6,7,8,9,10]] Tryz.func118 (by kernel_rfl) (by kernel_rfl)
def k_indic_Place:ACode:=(.seq (.ops [⟨some 2,.mv (.const (.int .i64 0)),none⟩,⟨some 3,.mv (.const (.bool false)),none⟩]) (.seq (.block 0 (.seq (.ops [⟨some 6,.mv (.tmp 0),none⟩,⟨some 7,.int .geq (.tmp 6) (.const (.int .u8 161)),none⟩,⟨some 8,.mv (.tmp 7),none⟩,⟨some 9,.mv (.tmp 0),some (8,true)⟩,⟨some 10,.int .leq (.tmp 9) (.const (.int .u8 234)),some (8,true)⟩,⟨some 11,.pick (.tmp 8) (.tmp 10) (.const (.bool false)),none⟩,⟨some 5,.mv (.tmp 11),none⟩]) (.cond (.tmp 5) (.seq (.ops [⟨some 12,.call (.func 137) [],none⟩,⟨some 13,.mv (.tmp 0),none⟩,⟨some 14,.int .sub (.tmp 13) (.const (.int .u8 161)),none⟩,⟨some 15,.index (.tmp 12) (.tmp 14) 74 false 1,none⟩,⟨some 4,.mv (.tmp 15),none⟩]) (.seq (.ops [⟨some 16,.mv (.tmp 4),none⟩,⟨some 17,.max2 (.const (.int .i64 0)) (.tmp 16),none⟩,⟨some 18,.mv (.tmp 4),none⟩,⟨some 19,.int .geq (.tmp 18) (.const (.int .i64 0)),none⟩,⟨some 2,.mv (.tmp 17),none⟩,⟨some 3,.mv (.tmp 19),none⟩]) .ret)) (.seq (.ops [⟨some 21,.mv (.tmp 0),none⟩,⟨some 22,.int .geq (.tmp 21) (.const (.int .u8 241)),none⟩,⟨some 23,.mv (.tmp 22),none⟩,⟨some 24,.mv (.tmp 0),some (23,true)⟩,⟨some 25,.int .leq (.tmp 24) (.const (.int .u8 250)),some (23,true)⟩,⟨some 26,.pick (.tmp 23) (.tmp 25) (.const (.bool false)),none⟩,⟨some 20,.mv (.tmp 26),none⟩]) (.cond (.tmp 20) (.seq (.ops [⟨some 27,.mv (.tmp 0),none⟩,⟨some 28,.conv .i64 (.tmp 27),none⟩,⟨some 29,.int .add (.const (.int .i64 102)) (.tmp 28),none⟩,⟨some 30,.int .sub (.tmp 29) (.const (.int .i64 241)),none⟩,⟨some 2,.mv (.tmp 30),none⟩,⟨some 3,.mv (.const (.bool true)),none⟩]) .ret) .skip))))) (.seq (.ops [⟨some 2,.mv (.const (.int .i64 0)),none⟩,⟨some 3,.mv (.const (.bool false)),none⟩]) .ret)))
def F_indic_Place:AFunc:=⟨1,31,[.tmp 2,.tmp 3],k_indic_Place⟩
theorem ok_indic_Place:FOK Tryz.prog 126 F_indic_Place:=FOK.of [] Tryz.func126 (by kernel_rfl) (by kernel_rfl)
def k_indic_Nukta:ACode:=(.seq (.ops [⟨some 0,.mv (.const (.slice none 0 0)),none⟩]) (.seq (.ops [⟨some 1,.build [(.int .i64 0),(.int .i64 0)] [(0,1,(.const (.int .i64 161))),(1,1,(.const (.int .i64 80)))],none⟩,⟨some 2,.build [(.int .i64 0),(.int .i64 0)] [(0,1,(.const (.int .i64 166))),(1,1,(.const (.int .i64 12)))],none⟩,⟨some 3,.build [(.int .i64 0),(.int .i64 0)] [(0,1,(.const (.int .i64 167))),(1,1,(.const (.int .i64 97)))],none⟩,⟨some 4,.build [(.int .i64 0),(.int .i64 0)] [(0,1,(.const (.int .i64 170))),(1,1,(.const (.int .i64 96)))],none⟩,⟨some 5,.build [(.int .i64 0),(.int .i64 0)] [(0,1,(.const (.int .i64 179))),(1,1,(.const (.int .i64 88)))],none⟩,⟨some 6,.build [(.int .i64 0),(.int .i64 0)] [(0,1,(.const (.int .i64 180))),(1,1,(.const (.int .i64 89)))],none⟩,⟨some 7,.build [(.int .i64 0),(.int .i64 0)] [(0,1,(.const (.int .i64 181))),(1,1,(.const (.int .i64 90)))],none⟩,⟨some 8,.build [(.int .i64 0),(.int .i64 0)] [(0,1,(.const (.int .i64 186))),(1,1,(.const (.int .i64 91)))],none⟩,⟨some 9,.build [(.int .i64 0),(.int .i64 0)] [(0,1,(.const (.int .i64 191))),(1,1,(.const (.int .i64 92)))],none⟩,⟨some 10,.build [(.int .i64 0),(.int .i64 0)] [(0,1,(.const (.int .i64 192))),(1,1,(.const (.int .i64 93)))],none⟩,⟨some 11,.build [(.int .i64 0),(.int .i64 0)] [(0,1,(.const (.int .i64 201))),(1,1,(.const (.int .i64 94)))],none⟩,⟨some 12,.build [(.int .i64 0),(.int .i64 0)] [(0,1,(.const (.int .i64 219))),(1,1,(.const (.int .i64 98)))],none⟩,⟨some 13,.build [(.int .i64 0),(.int .i64 0)] [(0,1,(.const (.int .i64 220))),(1,1,(.const (.int .i64 99)))],none⟩,⟨some 14,.build [(.int .i64 0),(.int .i64 0)] [(0,1,(.const (.int .i64 223))),(1,1,(.const (.int .i64 68)))],none⟩,⟨some 15,.bslice 162 14 2 [(.int .i64 0),(.int .i64 0)] [(0,2,(.tmp 1)),(2,2,(.tmp 2)),(4,2,(.tmp 3)),(6,2,(.tmp 4)),(8,2,(.tmp 5)),(10,2,(.tmp 6)),(12,2,(.tmp 7)),(14,2,(.tmp 8)),(16,2,(.tmp 9)),(18,2,(.tmp 10)),(20,2,(.tmp 11)),(22,2,(.tmp 12)),(24,2,(.tmp 13)),(26,2,(.tmp 14))],none⟩,⟨some 0,.mv (.tmp 15),none⟩]) .ret))
def F_indic_Nukta:AFunc:=⟨0,16,[.tmp 0],k_indic_Nukta⟩
theorem ok_indic_Nukta:FOK Tryz.prog 127 F_indic_Nukta:=FOK.of [] Tryz.func127 (by kernel_rfl) (by kernel_rfl)
def k_indic_code:ACode:=(.seq (.ops [⟨some 2,.mv (.const (.int .i64 0)),none⟩]) (.seq (.ops [⟨some 3,.build [(.int .i64 0),(.int .i64 0),(.int .i64 0),(.int .i64 0),(.int .i64 0),(.int .i64 0),(.int .i64 0),(.int .i64 0),(.int .i64 0)] [(0,1,(.const (.int .i64 66))),(1,1,(.const (.int .i64 67))),(2,1,(.const (.int .i64 75))),(3,1,(.const (.int .i64 74))),(4,1,(.const (.int .i64 71))),(5,1,(.const (.int .i64 68))),(6,1,(.const (.int .i64 69))),(7,1,(.const (.int .i64 72))),(8,1,(.const (.int .i64 73)))],none⟩,⟨some 4,.mv (.tmp 0),none⟩,⟨some 5,.index (.tmp 3) (.tmp 4) 9 false 1,none⟩,⟨some 2,.mv (.tmp 5),none⟩]) .ret))
def F_indic_code:AFunc:=⟨1,6,[.tmp 2],k_indic_code⟩
theorem ok_indic_code:FOK Tryz.prog 128 F_indic_code:=FOK.of [] Tryz.func128 (by kernel_rfl) (by kernel_rfl)
def k_slices_ContainsFunc___int_int_:ACode:=(.seq (.ops [⟨some 4,.mv (.const (.bool false)),none⟩]) (.seq (.ops [⟨some 5,.mv (.tmp 0),none⟩,⟨some 6,.mv (.tmp 1),none⟩,⟨some 7,.call (.func 138) [(.tmp 5),(.tmp 6)],none⟩,⟨some 8,.int .geq (.tmp 7) (.const (.int .i64 0)),none⟩,⟨some 4,.mv (.tmp 8),none⟩]) .ret))
def F_slices_ContainsFunc___int_int_:AFunc:=⟨2,9,[.tmp 4],k_slices_ContainsFunc___int_int_⟩
theorem ok_slices_ContainsFunc___int_int_:FOK Tryz.prog 130 F_slices_ContainsFunc___int_int_:=FOK.of [] Tryz.func130 (by kernel_rfl) (by kernel_rfl)
def k_rule_side_1:ACode:=(.seq (.ops [⟨some 2,.mv (.const (.bool false)),none⟩]) (.seq (.ops [⟨some 3,.mv (.tmp 0),none⟩,⟨some 4,.int .lss (.tmp 3) (.const (.int .i64 0)),none⟩,⟨some 5,.mv (.tmp 4),none⟩,⟨some 6,.mv (.tmp 0),some (5,false)⟩,⟨some 7,.int .gtr (.tmp 6) (.const (.int .i64 1114111)),some (5,false)⟩,⟨some 8,.pick (.tmp 5) (.const (.bool true)) (.tmp 7),none⟩,⟨some 2,.mv (.tmp 8),none⟩]) .ret))
def F_rule_side_1:AFunc:=⟨1,9,[.tmp 2],k_rule_side_1⟩
theorem ok_rule_side_1:FOK Tryz.prog 131 F_rule_side_1:=FOK.of [] Tryz.func131 (by kernel_rfl) (by kernel_rfl)
def k_indic_places:ACode:=(.seq (.ops [⟨some 0,.alloc [(.int .i64 0),(.int .i64 0),(.int .i64 0),(.int .i64 0),(.int .i64 0),(.int .i64 0),(.int .i64 0),(.int .i64 0),(.int .i64 0),(.int .i64 0),(.int .i64 0),(.int .i64 0),(.int .i64 0),(.int .i64 0),(.int .i64 0),(.int .i64 0),(.int .i64 0),(.int .i64 0),(.int .i64 0),(.int .i64 0),(.int .i64 0),(.int .i64 0),(.int .i64 0),(.int .i64 0),(.int .i64 0),(.int .i64 0),(.int .i64 0),(.int .i64 0),(.int .i64 0),(.int .i64 0),(.int .i64 0),(.int .i64 0),(.int .i64 0),(.int .i64 0),(.int .i64 0),(.int .i64 0),(.int .i64 0),(.int .i64 0),(.int .i64 0),(.int .i64 0),(.int .i64 0),(.int .i64 0),(.int .i64 0),(.int .i64 0),(.int .i64 0),(.int .i64 0),(.int .i64 0),(.int .i64 0),(.int .i64 0),(.int .i64 0),(.int .i64 0),(.int .i64 0),(.int .i64 0),(.int .i64 0),(.int .i64 0),(.int .i64 0),(.int .i64 0),(.int .i64 0),(.int .i64 0),(.int .i64 0),(.int .i64 0),(.int .i64 0),(.int .i64 0),(.int .i64 0),(.int .i64 0),(.int .i64 0),(.int .i64 0),(.int .i64 0),(.int .i64 0),(.int .i64 0),(.int .i64 0),(.int .i64 0),(.int .i64 0),(.int .i64 0)] 234,none⟩]) (.seq (.ops [⟨some 1,.build [(.int .i64 0),(.int .i64 0),(.int .i64 0),(.int .i64 0),(.int .i64 0),(.int .i64 0),(.int .i64 0),(.int .i64 0),(.int .i64 0),(.int .i64 0),(.int .i64 0),(.int .i64 0),(.int .i64 0),(.int .i64 0),(.int .i64 0),(.int .i64 0),(.int .i64 0),(.int .i64 0),(.int .i64 0),(.int .i64 0),(.int .i64 0),(.int .i64 0),(.int .i64 0),(.int .i64 0),(.int .i64 0),(.int .i64 0),(.int .i64 0),(.int .i64 0),(.int .i64 0),(.int .i64 0),(.int .i64 0),(.int .i64 0),(.int .i64 0),(.int .i64 0),(.int .i64 0),(.int .i64 0),(.int .i64 0),(.int .i64 0),(.int .i64 0),(.int .i64 0),(.int .i64 0),(.int .i64 0),(.int .i64 0),(.int .i64 0),(.int .i64 0),(.int .i64 0),(.int .i64 0),(.int .i64 0),(.int .i64 0),(.int .i64 0),(.int .i64 0),(.int .i64 0),(.int .i64 0),(.int .i64 0),(.int .i64 0),(.int .i64 0),(.int .i64 0),(.int .i64 0),(.int .i64 0),(.int .i64 0),(.int .i64 0),(.int .i64 0),(.int .i64 0),(.int .i64 0),(.int .i64 0),(.int .i64 0),(.int .i64 0),(.int .i64 0),(.int .i64 0),(.int .i64 0),(.int .i64 0),(.int .i64 0),(.int .i64 0),(.int .i64 0)] [(0,1,(.const (.int .i64 1))),(1,1,(.const (.int .i64 2))),(2,1,(.const (.int .i64 3))),(3,1,(.const (.int .i64 5))),(4,1,(.const (.int .i64 6))),(5,1,(.const (.int .i64 7))),(6,1,(.const (.int .i64 8))),(7,1,(.const (.int .i64 9))),(8,1,(.const (.int .i64 10))),(9,1,(.const (.int .i64 11))),(10,1,(.const (.int .i64 14))),(11,1,(.const (.int .i64 15))),(12,1,(.const (.int .i64 16))),(13,1,(.const (.int .i64 13))),(14,1,(.const (.int .i64 18))),(15,1,(.const (.int .i64 19))),(16,1,(.const (.int .i64 20))),(17,1,(.const (.int .i64 17))),(18,1,(.const (.int .i64 21))),(19,1,(.const (.int .i64 22))),(20,1,(.const (.int .i64 23))),(21,1,(.const (.int .i64 24))),(22,1,(.const (.int .i64 25))),(23,1,(.const (.int .i64 26))),(24,1,(.const (.int .i64 27))),(25,1,(.const (.int .i64 28))),(26,1,(.const (.int .i64 29))),(27,1,(.const (.int .i64 30))),(28,1,(.const (.int .i64 31))),(29,1,(.const (.int .i64 32))),(30,1,(.const (.int .i64 33))),(31,1,(.const (.int .i64 34))),(32,1,(.const (.int .i64 35))),(33,1,(.const (.int .i64 36))),(34,1,(.const (.int .i64 37))),(35,1,(.const (.int .i64 38))),(36,1,(.const (.int .i64 39))),(37,1,(.const (.int .i64 40))),(38,1,(.const (.int .i64 41))),(39,1,(.const (.int .i64 42))),(40,1,(.const (.int .i64 43))),(41,1,(.const (.int .i64 44))),(42,1,(.const (.int .i64 45))),(43,1,(.const (.int .i64 46))),(44,1,(.const (.int .i64 47))),(45,1,(.const (.int .i64 95))),(46,1,(.const (.int .i64 48))),(47,1,(.const (.int .i64 49))),(48,1,(.const (.int .i64 50))),(49,1,(.const (.int .i64 51))),(50,1,(.const (.int .i64 52))),(51,1,(.const (.int .i64 53))),(52,1,(.const (.int .i64 54))),(53,1,(.const (.int .i64 55))),(54,1,(.const (.int .i64 56))),(55,1,(.const (.int .i64 57))),(56,1,(.const (.int .i64 (-1)))),(57,1,(.const (.int .i64 62))),(58,1,(.const (.int .i64 63))),(59,1,(.const (.int .i64 64))),(60,1,(.const (.int .i64 65))),(61,1,(.const (.int .i64 66))),(62,1,(.const (.int .i64 67))),(63,1,(.const (.int .i64 70))),(64,1,(.const (.int .i64 71))),(65,1,(.const (.int .i64 72))),(66,1,(.const (.int .i64 69))),(67,1,(.const (.int .i64 74))),(68,1,(.const (.int .i64 75))),(69,1,(.const (.int .i64 76))),(70,1,(.const (.int .i64 73))),(71,1,(.const (.int .i64 77))),(72,1,(.const (.int .i64 60))),(73,1,(.const (.int .i64 (-1))))],none⟩,⟨none,.store (.tmp 0) (.tmp 1) 74,none⟩]) .ret))
def F_indic_places:AFunc:=⟨0,2,[.cell 0 (some 74)],k_indic_places⟩
theorem ok_indic_places:FOK Tryz.prog 137 F_indic_places:=FOK.of [] Tryz.func137 (by kernel_rfl) (by kernel_rfl)
def b_slices_IndexFunc___int_int__0:ACode:=(.seq (.ops [⟨some 9,.int .lss (.tmp 8) (.tmp 7),none⟩]) (.seq (.cond (.tmp 9) .skip (.exit 0)) (.seq (.block 1 (.seq (.ops [⟨some 10,.mv (.tmp 8),none⟩,⟨some 5,.mv (.tmp 10),none⟩]) (.seq (.ops [⟨some 11,.mv (.tmp 1),none⟩,⟨some 12,.mv (.tmp 0),none⟩,⟨some 13,.mv (.tmp 5),none⟩,⟨some 14,.iaddr (.tmp 12) (.tmp 13) 1,none⟩,⟨some 15,.load (.tmp 14) none,none⟩,⟨some 16,.call (.tmp 11) [(.tmp 15)],none⟩]) (.cond (.tmp 16) (.seq (.ops [⟨some 17,.mv (.tmp 5),none⟩,⟨some 4,.mv (.tmp 17),none⟩]) .ret) .skip)))) (.ops [⟨some 18,.int .add (.tmp 8) (.const (.int .i64 1)),none⟩,⟨some 8,.mv (.tmp 18),none⟩]))))
def k_slices_IndexFunc___int_int_:ACode:=(.seq (.ops [⟨some 4,.mv (.const (.int .i64 0)),none⟩]) (.seq (.seq (.ops [⟨some 6,.mv (.tmp 0),none⟩,⟨some 7,.len false (.tmp 6),none⟩,⟨some 8,.mv (.const (.int .i64 0)),none⟩]) (.block 0 (.loop [0,1,7,8] b_slices_IndexFunc___int_int__0))) (.seq (.ops [⟨some 4,.mv (.const (.int .i64 (-1))),none⟩]) .ret)))
def F_slices_IndexFunc___int_int_:AFunc:=⟨2,19,[.tmp 4],k_slices_IndexFunc___int_int_⟩
theorem ok_slices_IndexFunc___int_int_:FOK Tryz.prog 138 F_slices_IndexFunc___int_int_:=FOK.of [[0,1,7,8]] Tryz.func138 (by kernel_rfl) (by kernel_rfl)
def k_carry_Reader__End:ACode:=(.seq (.ops [⟨some 2,.mv (.const (.slice none 0 0)),none⟩]) (.seq (.seq (.ops [⟨some 3,.mv (.tmp 0),none⟩,⟨some 4,.nilChk (.tmp 3),none⟩,⟨some 5,.faddr (.tmp 4) 0,none⟩,⟨some 6,.load (.tmp 5) none,none⟩,⟨some 7,.len false (.tmp 6),none⟩,⟨some 8,.int .eql (.tmp 7) (.const (.int .i64 0)),none⟩]) (.cond (.tmp 8) (.seq (.ops [⟨some 2,.mv (.const (.slice none 0 0)),none⟩]) .ret) .skip)) (.seq (.ops [⟨some 9,.mv (.tmp 0),none⟩,⟨some 10,.mv (.tmp 0),none⟩,⟨some 11,.nilChk (.tmp 10),none⟩,⟨some 12,.faddr (.tmp 11) 0,none⟩,⟨some 13,.load (.tmp 12) none,none⟩,⟨some 14,.len false (.tmp 13),none⟩,⟨some 15,.call (.func 163) [(.tmp 9),(.const (.int .i64 0)),(.tmp 14),(.const (.int .i64 2))],none⟩,⟨some 16,.bslice 36 1 4 [(.int .i64 0),(.int .i64 0),(.slice none 0 0),(.int .i64 0)] [(0,4,(.tmp 15))],none⟩,⟨some 2,.mv (.tmp 16),none⟩]) .ret)))
def F_carry_Reader__End:AFunc:=⟨1,17,[.tmp 2],k_carry_Reader__End⟩
theorem ok_carry_Reader__End:FOK Tryz.prog 160 F_carry_Reader__End:=FOK.of [] Tryz.func160 (by kernel_rfl) (by kernel_rfl)
def k_codec_bytes__Put:ACode:=(.seq (.ops [⟨some 4,.mv (.const (.slice none 0 0)),none⟩]) (.seq (.ops [⟨some 5,.mv (.tmp 0),none⟩,⟨some 6,.nilChk (.tmp 5),none⟩,⟨some 7,.faddr (.tmp 6) 0,none⟩,⟨some 8,.mv (.tmp 1),none⟩,⟨some 9,.conv .u8 (.tmp 8),none⟩,⟨some 10,.call (.func 164) [(.tmp 7),(.tmp 9)],none⟩,⟨some 4,.mv (.tmp 10),none⟩]) .ret))
def F_codec_bytes__Put:AFunc:=⟨2,11,[.tmp 4],k_codec_bytes__Put⟩
theorem ok_codec_bytes__Put:FOK Tryz.prog 162 F_codec_bytes__Put:=FOK.of [] Tryz.func162 (by kernel_rfl) (by kernel_rfl)
def k_carry_Reader__take:ACode:=(.seq (.ops [⟨some 8,.alloc [(.int .i64 0),(.int .i64 0),(.slice none 0 0),(.int .i64 0)] 36,none⟩]) (.seq (.ops [⟨some 10,.mv (.tmp 0),none⟩,⟨some 11,.nilChk (.tmp 10),none⟩,⟨some 12,.faddr (.tmp 11) 1,none⟩,⟨some 13,.load (.tmp 12) none,none⟩,⟨some 14,.mv (.tmp 2),none⟩,⟨some 15,.mv (.tmp 3),none⟩,⟨some 16,.build [(.int .i64 0),(.int .i64 0),(.slice none 0 0),(.int .i64 0)] [(0,1,(.tmp 13)),(1,1,(.tmp 14)),(3,1,(.tmp 15))],none⟩,⟨some 9,.alloc [(.int .i64 0),(.int .i64 0),(.slice none 0 0),(.int .i64 0)] 36,none⟩,⟨none,.store (.tmp 9) (.tmp 16) 4,none⟩]) (.seq (.seq (.ops [⟨some 17,.mv (.tmp 3),none⟩,⟨some 18,.int .eql (.tmp 17) (.const (.int .i64 0)),none⟩]) (.cond (.tmp 18) (.ops [⟨some 19,.mv (.tmp 1),none⟩,⟨some 20,.bslice 3 1 1 [(.int .i64 0)] [(0,1,(.tmp 19))],none⟩,⟨some 21,.faddr (.tmp 9) 2,none⟩,⟨none,.store (.tmp 21) (.tmp 20) 1,none⟩]) .skip)) (.seq (.ops [⟨some 22,.mv (.tmp 0),none⟩,⟨some 23,.mv (.tmp 0),none⟩,⟨some 24,.nilChk (.tmp 23),none⟩,⟨some 25,.faddr (.tmp 24) 0,none⟩,⟨some 26,.load (.tmp 25) none,none⟩,⟨some 27,.mv (.tmp 2),none⟩,⟨some 28,.slice (.tmp 26) (some (.tmp 27)) none 1,none⟩,⟨some 29,.append (.const (.slice none 0 0)) (.tmp 28) 5 1 1,none⟩,⟨some 30,.nilChk (.tmp 22),none⟩,⟨some 31,.faddr (.tmp 30) 0,none⟩,⟨none,.store (.tmp 31) (.tmp 29) 1,none⟩]) (.seq (.ops [⟨some 32,.mv (.tmp 0),none⟩,⟨some 33,.nilChk (.tmp 32),none⟩,⟨some 34,.faddr (.tmp 33) 1,none⟩,⟨some 35,.load (.tmp 34) none,none⟩,⟨some 36,.mv (.tmp 2),none⟩,⟨some 37,.int .add (.tmp 35) (.tmp 36),none⟩,⟨some 38,.nilChk (.tmp 32),none⟩,⟨some 39,.faddr (.tmp 38) 1,none⟩,⟨none,.store (.tmp 39) (.tmp 37) 1,none⟩]) (.seq (.ops [⟨some 40,.load (.tmp 9) (some 4),none⟩,⟨none,.store (.tmp 8) (.tmp 40) 4,none⟩]) .ret))))))
def F_carry_Reader__take:AFunc:=⟨4,41,[.cell 8 (some 4)],k_carry_Reader__take⟩
theorem ok_carry_Reader__take:FOK Tryz.prog 163 F_carry_Reader__take:=FOK.of [] Tryz.func163 (by kernel_rfl) (by kernel_rfl)
def b_carry_Reader__Put_0:ACode:=(.seq (.seq (.ops [⟨some 19,.mv (.tmp 0),none⟩,⟨some 20,.nilChk (.tmp 19),none⟩,⟨some 21,.faddr (.tmp 20) 0,none⟩,⟨some 22,.load (.tmp 21) none,none⟩,⟨some 23,.len false (.tmp 22),none⟩,⟨some 24,.int .gtr (.tmp 23) (.const (.int .i64 0)),none⟩]) (.cond (.tmp 24) .skip (.exit 0))) (.block 1 (.seq (.ops [⟨some 26,.mv (.tmp 0),none⟩,⟨some 27,.nilChk (.tmp 26),none⟩,⟨some 28,.faddr (.tmp 27) 0,none⟩,⟨some 29,.load (.tmp 28) none,none⟩,⟨some 30,.call (.func 28) [(.tmp 29)],none⟩,⟨some 25,.mv (.tmp 30),none⟩,⟨some 31,.ext (.tmp 25) 0,none⟩,⟨some 32,.ext (.tmp 25) 1,none⟩,⟨some 33,.ext (.tmp 25) 2,none⟩,⟨some 6,.mv (.tmp 31),none⟩,⟨some 7,.mv (.tmp 32),none⟩,⟨some 8,.mv (.tmp 33),none⟩]) (.seq (.seq (.ops [⟨some 34,.mv (.tmp 8),none⟩,⟨some 35,.int .eql (.tmp 34) (.const (.int .i64 2)),none⟩]) (.cond (.tmp 35) (.exit 0) .skip)) (.ops [⟨some 36,.mv (.tmp 5),none⟩,⟨some 37,.mv (.tmp 0),none⟩,⟨some 38,.mv (.tmp 6),none⟩,⟨some 39,.mv (.tmp 7),none⟩,⟨some 40,.mv (.tmp 8),none⟩,⟨some 41,.call (.func 163) [(.tmp 37),(.tmp 38),(.tmp 39),(.tmp 40)],none⟩,⟨some 42,.bslice 36 1 4 [(.int .i64 0),(.int .i64 0),(.slice none 0 0),(.int .i64 0)] [(0,4,(.tmp 41))],none⟩,⟨some 43,.append (.tmp 36) (.tmp 42) 36 4 48,none⟩,⟨some 5,.mv (.tmp 43),none⟩])))))
def k_carry_Reader__Put:ACode:=(.seq (.ops [⟨some 4,.mv (.const (.slice none 0 0)),none⟩]) (.seq (.ops [⟨some 9,.mv (.tmp 0),none⟩,⟨some 10,.mv (.tmp 0),none⟩,⟨some 11,.nilChk (.tmp 10),none⟩,⟨some 12,.faddr (.tmp 11) 0,none⟩,⟨some 13,.load (.tmp 12) none,none⟩,⟨some 14,.mv (.tmp 1),none⟩,⟨some 15,.bslice 5 1 1 [(.int .u8 0)] [(0,1,(.tmp 14))],none⟩,⟨some 16,.append (.tmp 13) (.tmp 15) 5 1 1,none⟩,⟨some 17,.nilChk (.tmp 9),none⟩,⟨some 18,.faddr (.tmp 17) 0,none⟩,⟨none,.store (.tmp 18) (.tmp 16) 1,none⟩]) (.seq (.ops [⟨some 5,.mv (.const (.slice none 0 0)),none⟩]) (.seq (.block 0 (.loop [0,5] b_carry_Reader__Put_0)) (.seq (.ops [⟨some 44,.mv (.tmp 5),none⟩,⟨some 4,.mv (.tmp 44),none⟩]) .ret)))))
def F_carry_Reader__Put:AFunc:=⟨2,45,[.tmp 4],k_carry_Reader__Put⟩
theorem ok_carry_Reader__Put:FOK Tryz.prog 164 F_carry_Reader__Put:=FOK.of [[0,5]] Tryz.func164 (by kernel_rfl) (by kernel_rfl)
def k_iscii_Decoder__End : ACode := (.seq (.ops [⟨some 2,.mv (.const (.slice none 0 0)),none⟩]) (.seq (.ops [⟨some 3,.mv (.tmp 0),none⟩,⟨some 4,.mv (.tmp 0),none⟩,⟨some 5,.nilChk (.tmp 4),none⟩,⟨some 6,.faddr (.tmp 5) 0,none⟩,⟨some 7,.load (.tmp 6) none,none⟩,⟨some 8,.mop (.inv (.tmp 7) "End" []),none⟩,⟨some 9,.call (.func 168) [(.tmp 3),(.tmp 8)],none⟩,⟨some 2,.mv (.tmp 9),none⟩]) .ret))
def F_iscii_Decoder__End:AFunc:=⟨1,10,[.tmp 2],k_iscii_Decoder__End⟩
theorem ok_iscii_Decoder__End:FOK Tryz.prog 165 F_iscii_Decoder__End:=FOK.of [] Tryz.func165 (by kernel_rfl) (by kernel_rfl)
def k_iscii_Decoder__Put : ACode := (.seq (.ops [⟨some 4,.mv (.const (.slice none 0 0)),none⟩]) (.seq (.ops [⟨some 5,.mv (.tmp 0),none⟩,⟨some 6,.mv (.tmp 0),none⟩,⟨some 7,.nilChk (.tmp 6),none⟩,⟨some 8,.faddr (.tmp 7) 0,none⟩,⟨some 9,.load (.tmp 8) none,none⟩,⟨some 10,.mv (.tmp 1),none⟩,⟨some 11,.mop (.inv (.tmp 9) "Put" [(.tmp 10)]),none⟩,⟨some 12,.call (.func 168) [(.tmp 5),(.tmp 11)],none⟩,⟨some 4,.mv (.tmp 12),none⟩]) .ret))
def F_iscii_Decoder__Put:AFunc:=⟨2,13,[.tmp 4],k_iscii_Decoder__Put⟩
theorem ok_iscii_Decoder__Put:FOK Tryz.prog 167 F_iscii_Decoder__Put:=FOK.of [] Tryz.func167 (by kernel_rfl) (by kernel_rfl)
def b_iscii_Decoder__mean_0:ACode:=(.seq (.ops [⟨some 21,.int .lss (.tmp 20) (.tmp 19),none⟩]) (.seq (.cond (.tmp 21) .skip (.exit 2)) (.seq (.block 3 (.seq (.ops [⟨some 22,.iaddr (.tmp 18) (.tmp 20) 1,none⟩,⟨some 23,.load (.tmp 22) none,none⟩,⟨some 9,.mv (.tmp 23),none⟩]) (.block 4 (.seq (.ops [⟨some 34,.mv (.tmp 9),none⟩,⟨some 35,.int .geq (.tmp 34) (.const (.int .i64 8192)),none⟩,⟨some 33,.mv (.tmp 35),none⟩]) (.cond (.tmp 33) (.ops [⟨some 36,.mv (.tmp 7),none⟩,⟨some 37,.mv (.tmp 9),none⟩,⟨some 38,.int .sub (.tmp 37) (.const (.int .i64 8192)),none⟩,⟨some 39,.bslice 3 1 1 [(.int .i64 0)] [(0,1,(.tmp 38))],none⟩,⟨some 40,.append (.tmp 36) (.tmp 39) 3 1 8,none⟩,⟨some 7,.mv (.tmp 40),none⟩]) (.seq (.ops [⟨some 42,.mv (.tmp 9),none⟩,⟨some 43,.int .geq (.tmp 42) (.const (.int .i64 4096)),none⟩,⟨some 41,.mv (.tmp 43),none⟩]) (.cond (.tmp 41) (.ops [⟨some 44,.mv (.tmp 0),none⟩,⟨some 45,.mv (.tmp 9),none⟩,⟨some 46,.int .sub (.tmp 45) (.const (.int .i64 4096)),none⟩,⟨some 47,.nilChk (.tmp 44),none⟩,⟨some 48,.faddr (.tmp 47) 1,none⟩,⟨none,.store (.tmp 48) (.tmp 46) 1,none⟩]) (.ops [⟨some 24,.mv (.tmp 7),none⟩,⟨some 25,.mv (.tmp 0),none⟩,⟨some 26,.nilChk (.tmp 25),none⟩,⟨some 27,.faddr (.tmp 26) 1,none⟩,⟨some 28,.load (.tmp 27) none,none⟩,⟨some 29,.mv (.tmp 9),none⟩,⟨some 30,.call (.func 169) [(.tmp 28),(.tmp 29)],none⟩,⟨some 31,.bslice 3 1 1 [(.int .i64 0)] [(0,1,(.tmp 30))],none⟩,⟨some 32,.append (.tmp 24) (.tmp 31) 3 1 8,none⟩,⟨some 7,.mv (.tmp 32),none⟩])))))))) (.ops [⟨some 49,.int .add (.tmp 20) (.const (.int .i64 1)),none⟩,⟨some 20,.mv (.tmp 49),none⟩]))))
def b_iscii_Decoder__mean_1:ACode:=(.seq (.ops [⟨some 13,.int .lss (.tmp 12) (.tmp 11),none⟩]) (.seq (.cond (.tmp 13) .skip (.exit 0)) (.seq (.block 1 (.seq (.ops [⟨some 14,.mv (.tmp 12),none⟩,⟨some 15,.iaddr (.tmp 10) (.tmp 12) 4,none⟩,⟨some 16,.load (.tmp 15) (some 4),none⟩,⟨some 6,.alloc [(.int .i64 0),(.int .i64 0),(.slice none 0 0),(.int .i64 0)] 36,none⟩,⟨some 5,.mv (.tmp 14),none⟩,⟨none,.store (.tmp 6) (.tmp 16) 4,none⟩]) (.seq (.ops [⟨some 7,.mv (.const (.slice none 0 0)),none⟩]) (.seq (.seq (.ops [⟨some 17,.faddr (.tmp 6) 2,none⟩,⟨some 18,.load (.tmp 17) none,none⟩,⟨some 19,.len false (.tmp 18),none⟩,⟨some 20,.mv (.const (.int .i64 0)),none⟩]) (.block 2 (.loop [0,1,5,7,10,11,12,18,19,20] b_iscii_Decoder__mean_0))) (.ops [⟨some 50,.mv (.tmp 1),none⟩,⟨some 51,.mv (.tmp 5),none⟩,⟨some 52,.mv (.tmp 7),none⟩,⟨some 53,.iaddr (.tmp 50) (.tmp 51) 4,none⟩,⟨some 54,.faddr (.tmp 53) 2,none⟩,⟨none,.store (.tmp 54) (.tmp 52) 1,none⟩]))))) (.ops [⟨some 55,.int .add (.tmp 12) (.const (.int .i64 1)),none⟩,⟨some 12,.mv (.tmp 55),none⟩]))))
def k_iscii_Decoder__mean:ACode:=(.seq (.ops [⟨some 4,.mv (.const (.slice none 0 0)),none⟩]) (.seq (.seq (.ops [⟨some 10,.mv (.tmp 1),none⟩,⟨some 11,.len false (.tmp 10),none⟩,⟨some 12,.mv (.const (.int .i64 0)),none⟩]) (.block 0 (.loop [0,1,10,11,12] b_iscii_Decoder__mean_1))) (.seq (.ops [⟨some 56,.mv (.tmp 1),none⟩,⟨some 4,.mv (.tmp 56),none⟩]) .ret)))
def F_iscii_Decoder__mean:AFunc:=⟨2,57,[.tmp 4],k_iscii_Decoder__mean⟩
theorem ok_iscii_Decoder__mean:FOK Tryz.prog 168 F_iscii_Decoder__mean:=FOK.of [[0,1,10,11,12],[0,1,5,7,10,11,12,18,19,20]] Tryz.func168 (by kernel_rfl) (by kernel_rfl)
def k_indic_Scalar:ACode:=(.seq (.ops [⟨some 4,.mv (.const (.int .i64 0)),none⟩]) (.seq (.ops [⟨some 5,.mv (.tmp 0),none⟩,⟨some 6,.int .mul (.const (.int .i64 128)) (.tmp 5),none⟩,⟨some 7,.int .add (.const (.int .i64 2304)) (.tmp 6),none⟩,⟨some 8,.mv (.tmp 1),none⟩,⟨some 9,.int .add (.tmp 7) (.tmp 8),none⟩,⟨some 4,.mv (.tmp 9),none⟩]) .ret))
def F_indic_Scalar:AFunc:=⟨2,10,[.tmp 4],k_indic_Scalar⟩
theorem ok_indic_Scalar:FOK Tryz.prog 169 F_indic_Scalar:=FOK.of [] Tryz.func169 (by kernel_rfl) (by kernel_rfl)
def k_codec_scalars__End:ACode:=(.seq (.ops [⟨some 2,.mv (.const (.slice none 0 0)),none⟩]) (.seq (.ops [⟨some 2,.mv (.const (.slice none 0 0)),none⟩]) .ret))
def F_codec_scalars__End:AFunc:=⟨1,3,[.tmp 2],k_codec_scalars__End⟩
theorem ok_codec_scalars__End:FOK Tryz.prog 170 F_codec_scalars__End:=FOK.of [] Tryz.func170 (by kernel_rfl) (by kernel_rfl)
def b_codec_scalars__Put_0:ACode:=(.seq (.ops [⟨some 20,.int .lss (.tmp 19) (.tmp 18),none⟩]) (.seq (.cond (.tmp 20) .skip (.exit 0)) (.seq (.block 1 (.seq (.ops [⟨some 21,.iaddr (.tmp 17) (.tmp 19) 1,none⟩,⟨some 22,.load (.tmp 21) none,none⟩,⟨some 7,.mv (.tmp 22),none⟩]) (.ops [⟨some 23,.faddr (.tmp 5) 2,none⟩,⟨some 24,.load (.tmp 23) none,none⟩,⟨some 25,.mv (.tmp 7),none⟩,⟨some 26,.conv .i64 (.tmp 25),none⟩,⟨some 27,.bslice 3 1 1 [(.int .i64 0)] [(0,1,(.tmp 26))],none⟩,⟨some 28,.append (.tmp 24) (.tmp 27) 3 1 8,none⟩,⟨some 29,.faddr (.tmp 5) 2,none⟩,⟨none,.store (.tmp 29) (.tmp 28) 1,none⟩]))) (.ops [⟨some 30,.int .add (.tmp 19) (.const (.int .i64 1)),none⟩,⟨some 19,.mv (.tmp 30),none⟩]))))
def k_codec_scalars__Put:ACode:=(.seq (.ops [⟨some 4,.mv (.const (.slice none 0 0)),none⟩]) (.seq (.ops [⟨some 8,.mv (.tmp 0),none⟩,⟨some 9,.nilChk (.tmp 8),none⟩,⟨some 10,.faddr (.tmp 9) 0,none⟩,⟨some 11,.load (.tmp 10) none,none⟩,⟨some 12,.build [(.int .i64 0),(.int .i64 0),(.slice none 0 0),(.int .i64 0)] [(0,1,(.tmp 11)),(1,1,(.const (.int .i64 1))),(3,1,(.const (.int .i64 3)))],none⟩,⟨some 5,.alloc [(.int .i64 0),(.int .i64 0),(.slice none 0 0),(.int .i64 0)] 36,none⟩,⟨none,.store (.tmp 5) (.tmp 12) 4,none⟩]) (.seq (.seq (.ops [⟨some 13,.mv (.tmp 1),none⟩,⟨some 14,.call (.func 49) [(.tmp 13)],none⟩]) (.cond (.tmp 14) (.seq (.ops [⟨some 15,.faddr (.tmp 5) 3,none⟩,⟨none,.store (.tmp 15) (.const (.int .i64 0)) 1,none⟩]) (.seq (.ops [⟨some 16,.mv (.tmp 1),none⟩,⟨some 17,.call (.func 11) [(.const (.slice none 0 0)),(.tmp 16)],none⟩,⟨some 18,.len false (.tmp 17),none⟩,⟨some 19,.mv (.const (.int .i64 0)),none⟩]) (.block 0 (.loop [0,5,17,18,19] b_codec_scalars__Put_0)))) .skip)) (.seq (.ops [⟨some 31,.mv (.tmp 0),none⟩,⟨some 32,.nilChk (.tmp 31),none⟩,⟨some 33,.faddr (.tmp 32) 0,none⟩,⟨some 34,.load (.tmp 33) none,none⟩,⟨some 35,.int .add (.tmp 34) (.const (.int .i64 1)),none⟩,⟨some 36,.nilChk (.tmp 31),none⟩,⟨some 37,.faddr (.tmp 36) 0,none⟩,⟨none,.store (.tmp 37) (.tmp 35) 1,none⟩]) (.seq (.ops [⟨some 38,.load (.tmp 5) (some 4),none⟩,⟨some 39,.bslice 36 1 4 [(.int .i64 0),(.int .i64 0),(.slice none 0 0),(.int .i64 0)] [(0,4,(.tmp 38))],none⟩,⟨some 4,.mv (.tmp 39),none⟩]) .ret)))))
def F_codec_scalars__Put:AFunc:=⟨2,40,[.tmp 4],k_codec_scalars__Put⟩
theorem ok_codec_scalars__Put:FOK Tryz.prog 172 F_codec_scalars__Put:=FOK.of [[0,5,17,18,19]] Tryz.func172 (by kernel_rfl) (by kernel_rfl)
def k_iscii_Encoder__End:ACode:=(.seq (.ops [⟨some 2,.mv (.const (.slice none 0 0)),none⟩]) (.seq (.ops [⟨some 3,.mv (.tmp 0),none⟩,⟨some 4,.nilChk (.tmp 3),none⟩,⟨some 5,.faddr (.tmp 4) 0,none⟩,⟨some 6,.load (.tmp 5) none,none⟩,⟨some 7,.call (.func 176) [(.tmp 6)],none⟩,⟨some 2,.mv (.tmp 7),none⟩]) .ret))
def F_iscii_Encoder__End:AFunc:=⟨1,8,[.tmp 2],k_iscii_Encoder__End⟩
theorem ok_iscii_Encoder__End:FOK Tryz.prog 173 F_iscii_Encoder__End:=FOK.of [] Tryz.func173 (by kernel_rfl) (by kernel_rfl)
def k_iscii_Encoder__Put:ACode:=(.seq (.ops [⟨some 4,.mv (.const (.slice none 0 0)),none⟩]) (.seq (.ops [⟨some 13,.mv (.tmp 1),none⟩,⟨some 14,.call (.func 177) [(.tmp 13)],none⟩,⟨some 12,.mv (.tmp 14),none⟩,⟨some 15,.ext (.tmp 12) 0,none⟩,⟨some 16,.ext (.tmp 12) 1,none⟩,⟨some 17,.ext (.tmp 12) 2,none⟩,⟨some 5,.mv (.tmp 15),none⟩,⟨some 6,.mv (.tmp 16),none⟩,⟨some 7,.mv (.tmp 17),none⟩]) (.seq (.ops [⟨some 18,.mv (.tmp 6),none⟩,⟨some 8,.mv (.tmp 18),none⟩]) (.seq (.block 0 (.seq (.ops [⟨some 20,.mv (.tmp 1),none⟩,⟨some 21,.call (.func 49) [(.tmp 20)],none⟩,⟨some 22,.not (.tmp 21),none⟩,⟨some 19,.mv (.tmp 22),none⟩]) (.cond (.tmp 19) (.ops [⟨some 8,.mv (.const (.int .i64 (-1))),none⟩]) (.seq (.ops [⟨some 24,.mv (.tmp 7),none⟩,⟨some 25,.not (.tmp 24),none⟩,⟨some 23,.mv (.tmp 25),none⟩]) (.cond (.tmp 23) (.ops [⟨some 26,.mv (.tmp 1),none⟩,⟨some 27,.int .add (.const (.int .i64 8192)) (.tmp 26),none⟩,⟨some 8,.mv (.tmp 27),none⟩]) .skip))))) (.seq (.ops [⟨some 9,.mv (.const (.slice none 0 0)),none⟩]) (.seq (.seq (.ops [⟨some 28,.mv (.tmp 7),none⟩,⟨some 29,.mv (.tmp 28),none⟩,⟨some 30,.mv (.tmp 5),some (29,true)⟩,⟨some 31,.mv (.tmp 0),some (29,true)⟩,⟨some 32,.nilChk (.tmp 31),some (29,true)⟩,⟨some 33,.faddr (.tmp 32) 1,some (29,true)⟩,⟨some 34,.load (.tmp 33) none,some (29,true)⟩,⟨some 35,.int .neq (.tmp 30) (.tmp 34),some (29,true)⟩,⟨some 36,.pick (.tmp 29) (.tmp 35) (.const (.bool false)),none⟩]) (.cond (.tmp 36) (.seq (.ops [⟨some 37,.mv (.tmp 0),none⟩,⟨some 38,.nilChk (.tmp 37),none⟩,⟨some 39,.faddr (.tmp 38) 0,none⟩,⟨some 40,.load (.tmp 39) none,none⟩,⟨some 41,.call (.func 176) [(.tmp 40)],none⟩,⟨some 9,.mv (.tmp 41),none⟩]) (.seq (.ops [⟨some 43,.mv (.tmp 5),none⟩,⟨some 44,.call (.func 178) [(.tmp 43)],none⟩,⟨some 42,.mv (.tmp 44),none⟩,⟨some 45,.ext (.tmp 42) 0,none⟩,⟨some 46,.ext (.tmp 42) 1,none⟩,⟨some 10,.mv (.tmp 45),none⟩,⟨some 11,.mv (.tmp 46),none⟩]) (.seq (.ops [⟨some 47,.mv (.tmp 0),none⟩,⟨some 48,.mv (.tmp 5),none⟩,⟨some 49,.nilChk (.tmp 47),none⟩,⟨some 50,.faddr (.tmp 49) 1,none⟩,⟨none,.store (.tmp 50) (.tmp 48) 1,none⟩]) (.seq (.ops [⟨some 51,.mv (.tmp 0),none⟩,⟨some 52,.nilChk (.tmp 51),none⟩,⟨some 53,.faddr (.tmp 52) 0,none⟩,⟨some 54,.load (.tmp 53) none,none⟩,⟨some 55,.call (.func 179) [(.tmp 54)],none⟩]) (.ops [⟨some 56,.mv (.tmp 9),none⟩,⟨some 57,.mv (.tmp 0),none⟩,⟨some 58,.nilChk (.tmp 57),none⟩,⟨some 59,.faddr (.tmp 58) 2,none⟩,⟨some 60,.load (.tmp 59) none,none⟩,⟨some 61,.mv (.tmp 10),none⟩,⟨some 62,.bslice 3 2 1 [(.int .i64 0)] [(0,1,(.const (.int .i64 239))),(1,1,(.tmp 61))],none⟩,⟨some 63,.build [(.int .i64 0),(.int .i64 0),(.slice none 0 0),(.int .i64 0)] [(0,1,(.tmp 60)),(2,1,(.tmp 62))],none⟩,⟨some 64,.bslice 36 1 4 [(.int .i64 0),(.int .i64 0),(.slice none 0 0),(.int .i64 0)] [(0,4,(.tmp 63))],none⟩,⟨some 65,.append (.tmp 56) (.tmp 64) 36 4 48,none⟩,⟨some 9,.mv (.tmp 65),none⟩]))))) .skip)) (.seq (.ops [⟨some 66,.mv (.tmp 0),none⟩,⟨some 67,.nilChk (.tmp 66),none⟩,⟨some 68,.faddr (.tmp 67) 2,none⟩,⟨some 69,.load (.tmp 68) none,none⟩,⟨some 70,.int .add (.tmp 69) (.const (.int .i64 1)),none⟩,⟨some 71,.nilChk (.tmp 66),none⟩,⟨some 72,.faddr (.tmp 71) 2,none⟩,⟨none,.store (.tmp 72) (.tmp 70) 1,none⟩]) (.seq (.ops [⟨some 73,.mv (.tmp 9),none⟩,⟨some 74,.mv (.tmp 0),none⟩,⟨some 75,.nilChk (.tmp 74),none⟩,⟨some 76,.faddr (.tmp 75) 0,none⟩,⟨some 77,.load (.tmp 76) none,none⟩,⟨some 78,.mv (.tmp 8),none⟩,⟨some 79,.call (.func 180) [(.tmp 77),(.tmp 78)],none⟩,⟨some 80,.append (.tmp 73) (.tmp 79) 36 4 48,none⟩,⟨some 4,.mv (.tmp 80),none⟩]) .ret))))))))
def F_iscii_Encoder__Put:AFunc:=⟨2,81,[.tmp 4],k_iscii_Encoder__Put⟩
theorem ok_iscii_Encoder__Put:FOK Tryz.prog 175 F_iscii_Encoder__Put:=FOK.of [] Tryz.func175 (by kernel_rfl) (by kernel_rfl)
def k_machine_Encoder__End:ACode:=(.seq (.ops [⟨some 2,.mv (.const (.slice none 0 0)),none⟩]) (.seq (.ops [⟨some 3,.mv (.tmp 0),none⟩,⟨some 4,.mv (.tmp 0),none⟩,⟨some 5,.nilChk (.tmp 4),none⟩,⟨some 6,.faddr (.tmp 5) 0,none⟩,⟨some 7,.load (.tmp 6) none,none⟩,⟨some 8,.call (.func 182) [(.tmp 7)],none⟩,⟨some 9,.call (.func 181) [(.tmp 3),(.tmp 8)],none⟩,⟨some 2,.mv (.tmp 9),none⟩]) .ret))
def F_machine_Encoder__End:AFunc:=⟨1,10,[.tmp 2],k_machine_Encoder__End⟩
theorem ok_machine_Encoder__End:FOK Tryz.prog 176 F_machine_Encoder__End:=FOK.of [] Tryz.func176 (by kernel_rfl) (by kernel_rfl)
def k_indic_Of:ACode:=(.seq (.ops [⟨some 2,.mv (.const (.int .i64 0)),none⟩,⟨some 3,.mv (.const (.int .i64 0)),none⟩,⟨some 4,.mv (.const (.bool false)),none⟩]) (.seq (.seq (.ops [⟨some 5,.mv (.tmp 0),none⟩,⟨some 6,.int .lss (.tmp 5) (.const (.int .i64 2304)),none⟩,⟨some 7,.mv (.tmp 6),none⟩,⟨some 8,.mv (.tmp 0),some (7,false)⟩,⟨some 9,.int .geq (.tmp 8) (.const (.int .i64 3456)),some (7,false)⟩,⟨some 10,.pick (.tmp 7) (.const (.bool true)) (.tmp 9),none⟩,⟨some 11,.mv (.tmp 10),none⟩,⟨some 12,.mv (.tmp 0),some (11,false)⟩,⟨some 13,.int .eql (.tmp 12) (.const (.int .i64 2404)),some (11,false)⟩,⟨some 14,.pick (.tmp 11) (.const (.bool true)) (.tmp 13),none⟩]) (.cond (.tmp 14) (.seq (.ops [⟨some 2,.mv (.const (.int .i64 0)),none⟩,⟨some 3,.mv (.const (.int .i64 0)),none⟩,⟨some 4,.mv (.const (.bool false)),none⟩]) .ret) .skip)) (.seq (.ops [⟨some 15,.mv (.tmp 0),none⟩,⟨some 16,.int .sub (.tmp 15) (.const (.int .i64 2304)),none⟩,⟨some 17,.int .quo (.tmp 16) (.const (.int .i64 128)),none⟩,⟨some 18,.mv (.tmp 0),none⟩,⟨some 19,.int .sub (.tmp 18) (.const (.int .i64 2304)),none⟩,⟨some 20,.int .rem (.tmp 19) (.const (.int .i64 128)),none⟩,⟨some 2,.mv (.tmp 17),none⟩,⟨some 3,.mv (.tmp 20),none⟩,⟨some 4,.mv (.const (.bool true)),none⟩]) .ret)))
def F_indic_Of:AFunc:=⟨1,21,[.tmp 2,.tmp 3,.tmp 4],k_indic_Of⟩
theorem ok_indic_Of:FOK Tryz.prog 177 F_indic_Of:=FOK.of [] Tryz.func177 (by kernel_rfl) (by kernel_rfl)
def k_indic_Code:ACode:=(.seq (.ops [⟨some 2,.mv (.const (.int .i64 0)),none⟩,⟨some 3,.mv (.const (.bool false)),none⟩]) (.seq (.seq (.ops [⟨some 4,.mv (.tmp 0),none⟩,⟨some 5,.int .lss (.tmp 4) (.const (.int .i64 0)),none⟩,⟨some 6,.mv (.tmp 5),none⟩,⟨some 7,.mv (.tmp 0),some (6,false)⟩,⟨some 8,.int .geq (.tmp 7) (.const (.int .i64 9)),some (6,false)⟩,⟨some 9,.pick (.tmp 6) (.const (.bool true)) (.tmp 8),none⟩]) (.cond (.tmp 9) (.seq (.ops [⟨some 2,.mv (.const (.int .i64 0)),none⟩,⟨some 3,.mv (.const (.bool false)),none⟩]) .ret) .skip)) (.seq (.ops [⟨some 10,.mv (.tmp 0),none⟩,⟨some 11,.call (.func 128) [(.tmp 10)],none⟩,⟨some 2,.mv (.tmp 11),none⟩,⟨some 3,.mv (.const (.bool true)),none⟩]) .ret)))
def F_indic_Code:AFunc:=⟨1,12,[.tmp 2,.tmp 3],k_indic_Code⟩
theorem ok_indic_Code:FOK Tryz.prog 178 F_indic_Code:=FOK.of [] Tryz.func178 (by kernel_rfl) (by kernel_rfl)
def k_machine_Encoder__Apart:ACode:=(.ops [⟨some 2,.mv (.tmp 0),none⟩,⟨some 3,.nilChk (.tmp 2),none⟩,⟨some 4,.faddr (.tmp 3) 2,none⟩,⟨none,.store (.tmp 4) (.const (.slice none 0 0)) 1,none⟩])
def F_machine_Encoder__Apart:AFunc:=⟨1,5,[],k_machine_Encoder__Apart⟩
theorem ok_machine_Encoder__Apart:FOK Tryz.prog 179 F_machine_Encoder__Apart:=FOK.of [] Tryz.func179 (by kernel_rfl) (by kernel_rfl)
def k_machine_Encoder__Put:ACode:=(.seq (.ops [⟨some 4,.mv (.const (.slice none 0 0)),none⟩]) (.seq (.ops [⟨some 5,.mv (.tmp 0),none⟩,⟨some 6,.mv (.tmp 0),none⟩,⟨some 7,.nilChk (.tmp 6),none⟩,⟨some 8,.faddr (.tmp 7) 0,none⟩,⟨some 9,.load (.tmp 8) none,none⟩,⟨some 10,.mv (.tmp 1),none⟩,⟨some 11,.call (.func 183) [(.tmp 9),(.tmp 10)],none⟩,⟨some 12,.call (.func 181) [(.tmp 5),(.tmp 11)],none⟩,⟨some 4,.mv (.tmp 12),none⟩]) .ret))
def F_machine_Encoder__Put:AFunc:=⟨2,13,[.tmp 4],k_machine_Encoder__Put⟩
theorem ok_machine_Encoder__Put:FOK Tryz.prog 180 F_machine_Encoder__Put:=FOK.of [] Tryz.func180 (by kernel_rfl) (by kernel_rfl)
def b_machine_Encoder__join_0:ACode:=(.seq (.ops [⟨some 10,.int .lss (.tmp 9) (.tmp 8),none⟩]) (.seq (.cond (.tmp 10) .skip (.exit 0)) (.seq (.block 1 (.seq (.ops [⟨some 11,.mv (.tmp 9),none⟩,⟨some 12,.iaddr (.tmp 7) (.tmp 9) 4,none⟩,⟨some 13,.load (.tmp 12) (some 4),none⟩,⟨some 6,.alloc [(.int .i64 0),(.int .i64 0),(.slice none 0 0),(.int .i64 0)] 36,none⟩,⟨some 5,.mv (.tmp 11),none⟩,⟨none,.store (.tmp 6) (.tmp 13) 4,none⟩]) (.seq (.draw [⟨some 14,.mv (.tmp 1),none⟩,⟨some 15,.mv (.tmp 5),none⟩,⟨some 16,.mv (.tmp 0),none⟩,⟨some 17,.nilChk (.tmp 16),none⟩,⟨some 18,.faddr (.tmp 17) 1,none⟩,⟨some 19,.load (.tmp 18) none,none⟩,⟨some 20,.mv (.tmp 0),none⟩,⟨some 21,.nilChk (.tmp 20),none⟩,⟨some 22,.faddr (.tmp 21) 2,none⟩,⟨some 23,.load (.tmp 22) none,none⟩,⟨some 24,.load (.tmp 6) (some 4),none⟩,⟨some 25,.call (.func 184) [(.tmp 19),(.tmp 23),(.tmp 24)],none⟩,⟨some 26,.iaddr (.tmp 14) (.tmp 15) 4,none⟩,⟨none,.store (.tmp 26) (.tmp 25) 4,none⟩]) (.seq (.ops [⟨some 27,.mv (.tmp 1),none⟩,⟨some 28,.mv (.tmp 5),none⟩,⟨some 29,.iaddr (.tmp 27) (.tmp 28) 4,none⟩,⟨some 30,.faddr (.tmp 29) 3,none⟩,⟨some 31,.load (.tmp 30) none,none⟩,⟨some 32,.int .eql (.tmp 31) (.const (.int .i64 0)),none⟩]) (.cond (.tmp 32) (.ops [⟨some 33,.mv (.tmp 0),none⟩,⟨some 34,.faddr (.tmp 6) 2,none⟩,⟨some 35,.load (.tmp 34) none,none⟩,⟨some 36,.nilChk (.tmp 33),none⟩,⟨some 37,.faddr (.tmp 36) 2,none⟩,⟨none,.store (.tmp 37) (.tmp 35) 1,none⟩]) .skip))))) (.ops [⟨some 38,.int .add (.tmp 9) (.const (.int .i64 1)),none⟩,⟨some 9,.mv (.tmp 38),none⟩]))))
def k_machine_Encoder__join:ACode:=(.seq (.ops [⟨some 4,.mv (.const (.slice none 0 0)),none⟩]) (.seq (.seq (.ops [⟨some 7,.mv (.tmp 1),none⟩,⟨some 8,.len false (.tmp 7),none⟩,⟨some 9,.mv (.const (.int .i64 0)),none⟩]) (.block 0 (.loop [0,1,7,8,9] b_machine_Encoder__join_0))) (.seq (.ops [⟨some 39,.mv (.tmp 1),none⟩,⟨some 4,.mv (.tmp 39),none⟩]) .ret)))
def F_machine_Encoder__join:AFunc:=⟨2,40,[.tmp 4],k_machine_Encoder__join⟩
theorem ok_machine_Encoder__join:FOK Tryz.prog 181 F_machine_Encoder__join:=FOK.of [[0,1,7,8,9],[0,1,2,3,4,5,6,7,8,9,10,11,12,13]] Tryz.func181 (by kernel_rfl) (by kernel_rfl)
def k_match_Match__End:ACode:=(.seq (.ops [⟨some 2,.mv (.const (.slice none 0 0)),none⟩]) (.seq (.ops [⟨some 3,.mv (.tmp 0),none⟩,⟨some 4,.call (.func 185) [(.tmp 3),(.const (.bool true))],none⟩,⟨some 2,.mv (.tmp 4),none⟩]) .ret))
def F_match_Match__End:AFunc:=⟨1,5,[.tmp 2],k_match_Match__End⟩
theorem ok_match_Match__End:FOK Tryz.prog 182 F_match_Match__End:=FOK.of [] Tryz.func182 (by kernel_rfl) (by kernel_rfl)
def k_match_Match__Put:ACode:=(.seq (.ops [⟨some 4,.mv (.const (.slice none 0 0)),none⟩]) (.seq (.ops [⟨some 5,.mv (.tmp 0),none⟩,⟨some 6,.mv (.tmp 0),none⟩,⟨some 7,.nilChk (.tmp 6),none⟩,⟨some 8,.faddr (.tmp 7) 1,none⟩,⟨some 9,.load (.tmp 8) none,none⟩,⟨some 10,.mv (.tmp 1),none⟩,⟨some 11,.bslice 3 1 1 [(.int .i64 0)] [(0,1,(.tmp 10))],none⟩,⟨some 12,.append (.tmp 9) (.tmp 11) 3 1 8,none⟩,⟨some 13,.nilChk (.tmp 5),none⟩,⟨some 14,.faddr (.tmp 13) 1,none⟩,⟨none,.store (.tmp 14) (.tmp 12) 1,none⟩]) (.seq (.ops [⟨some 15,.mv (.tmp 0),none⟩,⟨some 16,.call (.func 185) [(.tmp 15),(.const (.bool false))],none⟩,⟨some 4,.mv (.tmp 16),none⟩]) .ret)))
def F_match_Match__Put:AFunc:=⟨2,17,[.tmp 4],k_match_Match__Put⟩
theorem ok_match_Match__Put:FOK Tryz.prog 183 F_match_Match__Put:=FOK.of [] Tryz.func183 (by kernel_rfl) (by kernel_rfl)
def k_table_Table__Join:ACode:=(.seq (.ops [⟨some 5,.box (.tmp 2) 36,none⟩,⟨some 6,.alloc [(.int .i64 0),(.int .i64 0),(.slice none 0 0),(.int .i64 0)] 36,none⟩]) (.seq (.seq (.ops [⟨some 7,.faddr (.tmp 5) 3,none⟩,⟨some 8,.load (.tmp 7) none,none⟩,⟨some 9,.int .eql (.tmp 8) (.const (.int .i64 0)),none⟩,⟨some 10,.mv (.tmp 9),none⟩,⟨some 11,.mv (.tmp 0),some (10,true)⟩,⟨some 12,.mv (.tmp 1),some (10,true)⟩,⟨some 13,.faddr (.tmp 5) 2,some (10,true)⟩,⟨some 14,.load (.tmp 13) none,some (10,true)⟩,⟨some 15,.call (.func 186) [(.tmp 11),(.tmp 12),(.tmp 14)],some (10,true)⟩,⟨some 16,.pick (.tmp 10) (.tmp 15) (.const (.bool false)),none⟩]) (.cond (.tmp 16) (.seq (.ops [⟨some 17,.faddr (.tmp 5) 0,none⟩,⟨some 18,.load (.tmp 17) none,none⟩,⟨some 19,.faddr (.tmp 5) 1,none⟩,⟨some 20,.load (.tmp 19) none,none⟩,⟨some 21,.build [(.int .i64 0),(.int .i64 0),(.slice none 0 0),(.int .i64 0)] [(0,1,(.tmp 18)),(1,1,(.tmp 20)),(3,1,(.const (.int .i64 3)))],none⟩,⟨none,.store (.tmp 6) (.tmp 21) 4,none⟩]) .ret) .skip)) (.seq (.ops [⟨some 22,.load (.tmp 5) (some 4),none⟩,⟨none,.store (.tmp 6) (.tmp 22) 4,none⟩]) .ret)))
def F_table_Table__Join:AFunc:=⟨3,23,[.cell 6 (some 4)],k_table_Table__Join⟩
theorem ok_table_Table__Join:FOK Tryz.prog 184 F_table_Table__Join:=FOK.of [] Tryz.func184 (by kernel_rfl) (by kernel_rfl)
def b_match_Match__take_0:ACode:=(.seq (.seq (.ops [⟨some 10,.mv (.tmp 0),none⟩,⟨some 11,.nilChk (.tmp 10),none⟩,⟨some 12,.faddr (.tmp 11) 1,none⟩,⟨some 13,.load (.tmp 12) none,none⟩,⟨some 14,.len false (.tmp 13),none⟩,⟨some 15,.int .gtr (.tmp 14) (.const (.int .i64 0)),none⟩]) (.cond (.tmp 15) .skip (.exit 0))) (.block 1 (.seq (.draw [⟨some 17,.mv (.tmp 0),none⟩,⟨some 18,.nilChk (.tmp 17),none⟩,⟨some 19,.faddr (.tmp 18) 0,none⟩,⟨some 20,.load (.tmp 19) none,none⟩,⟨some 21,.mv (.tmp 0),none⟩,⟨some 22,.nilChk (.tmp 21),none⟩,⟨some 23,.faddr (.tmp 22) 1,none⟩,⟨some 24,.load (.tmp 23) none,none⟩,⟨some 25,.call (.func 73) [(.tmp 20),(.tmp 24)],none⟩,⟨some 16,.mv (.tmp 25),none⟩,⟨some 26,.ext (.tmp 16) 0,none⟩,⟨some 27,.ext (.tmp 16) 1,none⟩,⟨some 28,.ext (.tmp 16) 2,none⟩,⟨some 6,.mv (.tmp 26),none⟩,⟨some 7,.mv (.tmp 27),none⟩,⟨some 8,.mv (.tmp 28),none⟩]) (.seq (.draw [⟨some 29,.mv (.tmp 0),none⟩,⟨some 30,.nilChk (.tmp 29),none⟩,⟨some 31,.faddr (.tmp 30) 3,none⟩,⟨some 32,.load (.tmp 31) none,none⟩,⟨some 33,.mv (.tmp 0),none⟩,⟨some 34,.nilChk (.tmp 33),none⟩,⟨some 35,.faddr (.tmp 34) 1,none⟩,⟨some 36,.load (.tmp 35) none,none⟩,⟨some 37,.len false (.tmp 36),none⟩,⟨some 38,.int .add (.tmp 32) (.tmp 37),none⟩,⟨some 39,.nilChk (.tmp 29),none⟩,⟨some 40,.faddr (.tmp 39) 3,none⟩,⟨none,.store (.tmp 40) (.tmp 38) 1,none⟩]) (.seq (.seq (.ops [⟨some 41,.mv (.tmp 8),none⟩,⟨some 42,.mv (.tmp 41),none⟩,⟨some 43,.mv (.tmp 1),some (42,true)⟩,⟨some 44,.not (.tmp 43),some (42,true)⟩,⟨some 45,.pick (.tmp 42) (.tmp 44) (.const (.bool false)),none⟩]) (.cond (.tmp 45) (.exit 0) .skip)) (.seq (.ops [⟨some 46,.mv (.tmp 0),none⟩,⟨some 47,.nilChk (.tmp 46),none⟩,⟨some 48,.faddr (.tmp 47) 2,none⟩,⟨some 49,.load (.tmp 48) none,none⟩,⟨some 50,.mv (.tmp 7),none⟩,⟨some 51,.max2 (.const (.int .i64 1)) (.tmp 50),none⟩,⟨some 52,.build [(.int .i64 0),(.int .i64 0),(.slice none 0 0),(.int .i64 0)] [(0,1,(.tmp 49)),(1,1,(.tmp 51))],none⟩,⟨some 9,.alloc [(.int .i64 0),(.int .i64 0),(.slice none 0 0),(.int .i64 0)] 36,none⟩,⟨none,.store (.tmp 9) (.tmp 52) 4,none⟩]) (.seq (.seq (.ops [⟨some 53,.mv (.tmp 6),none⟩,⟨some 54,.int .lss (.tmp 53) (.const (.int .i64 0)),none⟩]) (.cond (.tmp 54) (.ops [⟨some 55,.faddr (.tmp 9) 3,none⟩,⟨none,.store (.tmp 55) (.const (.int .i64 3)) 1,none⟩]) (.ops [⟨some 56,.mv (.tmp 0),none⟩,⟨some 57,.nilChk (.tmp 56),none⟩,⟨some 58,.faddr (.tmp 57) 0,none⟩,⟨some 59,.load (.tmp 58) none,none⟩,⟨some 60,.mv (.tmp 6),none⟩,⟨some 61,.call (.func 74) [(.tmp 59),(.tmp 60)],none⟩,⟨some 62,.faddr (.tmp 9) 2,none⟩,⟨none,.store (.tmp 62) (.tmp 61) 1,none⟩]))) (.seq (.ops [⟨some 63,.mv (.tmp 5),none⟩,⟨some 64,.load (.tmp 9) (some 4),none⟩,⟨some 65,.bslice 36 1 4 [(.int .i64 0),(.int .i64 0),(.slice none 0 0),(.int .i64 0)] [(0,4,(.tmp 64))],none⟩,⟨some 66,.append (.tmp 63) (.tmp 65) 36 4 48,none⟩,⟨some 5,.mv (.tmp 66),none⟩]) (.seq (.draw [⟨some 67,.mv (.tmp 0),none⟩,⟨some 68,.mv (.tmp 0),none⟩,⟨some 69,.nilChk (.tmp 68),none⟩,⟨some 70,.faddr (.tmp 69) 1,none⟩,⟨some 71,.load (.tmp 70) none,none⟩,⟨some 72,.faddr (.tmp 9) 1,none⟩,⟨some 73,.load (.tmp 72) none,none⟩,⟨some 74,.slice (.tmp 71) (some (.tmp 73)) none 1,none⟩,⟨some 75,.append (.const (.slice none 0 0)) (.tmp 74) 3 1 8,none⟩,⟨some 76,.nilChk (.tmp 67),none⟩,⟨some 77,.faddr (.tmp 76) 1,none⟩,⟨none,.store (.tmp 77) (.tmp 75) 1,none⟩]) (.draw [⟨some 78,.mv (.tmp 0),none⟩,⟨some 79,.nilChk (.tmp 78),none⟩,⟨some 80,.faddr (.tmp 79) 2,none⟩,⟨some 81,.load (.tmp 80) none,none⟩,⟨some 82,.faddr (.tmp 9) 1,none⟩,⟨some 83,.load (.tmp 82) none,none⟩,⟨some 84,.int .add (.tmp 81) (.tmp 83),none⟩,⟨some 85,.nilChk (.tmp 78),none⟩,⟨some 86,.faddr (.tmp 85) 2,none⟩,⟨none,.store (.tmp 86) (.tmp 84) 1,none⟩]))))))))))
def k_match_Match__take:ACode:=(.seq (.ops [⟨some 4,.mv (.const (.slice none 0 0)),none⟩]) (.seq (.ops [⟨some 5,.mv (.const (.slice none 0 0)),none⟩]) (.seq (.block 0 (.loop [0,1,5] b_match_Match__take_0)) (.seq (.ops [⟨some 87,.mv (.tmp 5),none⟩,⟨some 4,.mv (.tmp 87),none⟩]) .ret))))
def F_match_Match__take:AFunc:=⟨2,88,[.tmp 4],k_match_Match__take⟩
theorem ok_match_Match__take:FOK Tryz.prog 185 F_match_Match__take:=FOK.of [[0,1,5],[0,1,2,3,4,5,6,7,8,9,10,11,12,13,14,15],[0,1,2,3,4,5,6,7,8,9,10,11,12],[0,1,2,3,4,5,6,7,8,9,10,11],[0,1,2,3,4,5,6,7,8,9]] Tryz.func185 (by kernel_rfl) (by kernel_rfl)
def k_table_Table__Joins:ACode:=(.seq (.ops [⟨some 6,.mv (.const (.bool false)),none⟩]) (.seq (.seq (.ops [⟨some 10,.mv (.tmp 1),none⟩,⟨some 11,.len false (.tmp 10),none⟩,⟨some 12,.int .eql (.tmp 11) (.const (.int .i64 0)),none⟩]) (.cond (.tmp 12) (.seq (.ops [⟨some 6,.mv (.const (.bool false)),none⟩]) .ret) .skip)) (.seq (.draw [⟨some 14,.mv (.tmp 0),none⟩,⟨some 15,.nilChk (.tmp 14),none⟩,⟨some 16,.faddr (.tmp 15) 2,none⟩,⟨some 17,.load (.tmp 16) none,none⟩,⟨some 18,.mv (.tmp 1),none⟩,⟨some 20,.mv (.tmp 2),none⟩,⟨some 19,.call (.func 93) [(.tmp 18)],none⟩,⟨some 21,.append (.tmp 19) (.tmp 20) 3 1 8,none⟩,⟨some 22,.call (.func 73) [(.tmp 17),(.tmp 21)],none⟩,⟨some 13,.mv (.tmp 22),none⟩,⟨some 23,.ext (.tmp 13) 0,none⟩,⟨some 24,.ext (.tmp 13) 1,none⟩,⟨some 25,.ext (.tmp 13) 2,none⟩,⟨some 7,.mv (.tmp 23),none⟩,⟨some 8,.mv (.tmp 24),none⟩,⟨some 9,.mv (.tmp 25),none⟩]) (.seq (.ops [⟨some 26,.mv (.tmp 8),none⟩,⟨some 27,.mv (.tmp 1),none⟩,⟨some 28,.len false (.tmp 27),none⟩,⟨some 29,.int .gtr (.tmp 26) (.tmp 28),none⟩,⟨some 6,.mv (.tmp 29),none⟩]) .ret))))
def F_table_Table__Joins:AFunc:=⟨3,30,[.tmp 6],k_table_Table__Joins⟩
theorem ok_table_Table__Joins:FOK Tryz.prog 186 F_table_Table__Joins:=FOK.of [[0,1,2,3,4,6,5,7,8,9,10,11,12,13,14,15]] Tryz.func186 (by kernel_rfl) (by kernel_rfl)
def k_cf_Rule_:ACode:=(.seq (.ops [⟨some 4,.mv (.const (.bool false)),none⟩]) (.seq (.ops [⟨some 5,.mv (.tmp 0),none⟩,⟨some 6,.mv (.tmp 1),none⟩,⟨some 7,.call (.func 114) [(.tmp 5),(.tmp 6)],none⟩,⟨some 8,.int .geq (.tmp 7) (.const (.int .i64 0)),none⟩,⟨some 4,.mv (.tmp 8),none⟩]) .ret))
def F_cf_Rule_:AFunc:=⟨2,9,[.tmp 4],k_cf_Rule_⟩
theorem ok_cf_Rule_:FOK Tryz.prog 117 F_cf_Rule_:=FOK.of [] Tryz.func117 (by kernel_rfl) (by kernel_rfl)
def k_lontartop_TopNormal : ACode := (.seq (.ops [⟨some 8,.mv (.const (.bool false)),none⟩]) (.seq (.seq (.ops [⟨some 22,.call (.func 7) [],none⟩,⟨some 23,.not (.tmp 22),none⟩]) (.cond (.tmp 23) (.seq (.ops [⟨some 8,.mv (.const (.bool false)),none⟩]) .ret) .skip)) (.seq (.ops [⟨some 24,.mv (.tmp 0),none⟩,⟨some 25,.call (.func 9) [(.tmp 24)],none⟩,⟨some 26,.mv (.tmp 1),none⟩,⟨some 27,.mv (.tmp 2),none⟩,⟨some 28,.mv (.tmp 3),none⟩,⟨some 29,.call (.func 12) [(.tmp 25),(.tmp 26),(.tmp 27),(.tmp 28)],none⟩,⟨some 9,.mv (.tmp 29),none⟩]) (.seq (.ops [⟨some 31,.mv (.tmp 0),none⟩,⟨some 32,.call (.func 9) [(.tmp 31)],none⟩,⟨some 33,.mv (.tmp 0),none⟩,⟨some 34,.call (.func 9) [(.tmp 33)],none⟩,⟨some 35,.mv (.tmp 9),none⟩,⟨some 36,.call (.func 8) [(.tmp 32),(.tmp 34),(.const (.int .i64 0)),(.tmp 35)],none⟩,⟨some 30,.mv (.tmp 36),none⟩,⟨some 37,.ext (.tmp 30) 0,none⟩,⟨some 38,.ext (.tmp 30) 1,none⟩,⟨some 39,.ext (.tmp 30) 2,none⟩,⟨some 11,.alloc [(.int .i64 0),(.int .i64 0),(.int .i64 0)] 27,none⟩,⟨some 10,.mv (.tmp 37),none⟩,⟨none,.store (.tmp 11) (.tmp 38) 3,none⟩,⟨some 12,.mv (.tmp 39),none⟩]) (.seq (.seq (.ops [⟨some 40,.faddr (.tmp 11) 2,none⟩,⟨some 41,.load (.tmp 40) none,none⟩,⟨some 42,.int .neq (.tmp 41) (.const (.int .i64 0)),none⟩]) (.cond (.tmp 42) (.seq (.ops [⟨some 8,.mv (.const (.bool true)),none⟩]) .ret) .skip)) (.seq (.ops [⟨some 44,.mv (.tmp 0),none⟩,⟨some 45,.call (.func 9) [(.tmp 44)],none⟩,⟨some 46,.mv (.tmp 0),none⟩,⟨some 47,.call (.func 9) [(.tmp 46)],none⟩,⟨some 48,.mv (.tmp 10),none⟩,⟨some 49,.call (.func 8) [(.tmp 45),(.tmp 47),(.const (.int .i64 0)),(.tmp 48)],none⟩,⟨some 43,.mv (.tmp 49),none⟩,⟨some 50,.ext (.tmp 43) 0,none⟩,⟨some 51,.ext (.tmp 43) 1,none⟩,⟨some 52,.ext (.tmp 43) 2,none⟩,⟨some 14,.alloc [(.int .i64 0),(.int .i64 0),(.int .i64 0)] 27,none⟩,⟨some 13,.mv (.tmp 50),none⟩,⟨none,.store (.tmp 14) (.tmp 51) 3,none⟩,⟨some 15,.mv (.tmp 52),none⟩]) (.seq (.ops [⟨some 54,.mv (.tmp 0),none⟩,⟨some 55,.call (.func 9) [(.tmp 54)],none⟩,⟨some 56,.mv (.tmp 9),none⟩,⟨some 57,.call (.func 8) [(.tmp 55),(.const (.string ⟨#[117,116,102,45,56]⟩)),(.const (.int .i64 0)),(.tmp 56)],none⟩,⟨some 53,.mv (.tmp 57),none⟩,⟨some 58,.ext (.tmp 53) 0,none⟩,⟨some 59,.ext (.tmp 53) 1,none⟩,⟨some 60,.ext (.tmp 53) 2,none⟩,⟨some 17,.alloc [(.int .i64 0),(.int .i64 0),(.int .i64 0)] 27,none⟩,⟨some 16,.mv (.tmp 58),none⟩,⟨none,.store (.tmp 17) (.tmp 59) 3,none⟩,⟨some 18,.mv (.tmp 60),none⟩]) (.seq (.ops [⟨some 62,.mv (.tmp 0),none⟩,⟨some 63,.call (.func 9) [(.tmp 62)],none⟩,⟨some 64,.mv (.tmp 10),none⟩,⟨some 65,.call (.func 8) [(.tmp 63),(.const (.string ⟨#[117,116,102,45,56]⟩)),(.const (.int .i64 0)),(.tmp 64)],none⟩,⟨some 61,.mv (.tmp 65),none⟩,⟨some 66,.ext (.tmp 61) 0,none⟩,⟨some 67,.ext (.tmp 61) 1,none⟩,⟨some 68,.ext (.tmp 61) 2,none⟩,⟨some 20,.alloc [(.int .i64 0),(.int .i64 0),(.int .i64 0)] 27,none⟩,⟨some 19,.mv (.tmp 66),none⟩,⟨none,.store (.tmp 20) (.tmp 67) 3,none⟩,⟨some 21,.mv (.tmp 68),none⟩]) (.seq (.ops [⟨some 69,.faddr (.tmp 14) 2,none⟩,⟨some 70,.load (.tmp 69) none,none⟩,⟨some 71,.int .eql (.tmp 70) (.const (.int .i64 0)),none⟩,⟨some 72,.mv (.tmp 71),none⟩,⟨some 73,.mv (.tmp 10),some (72,true)⟩,⟨some 74,.mop (.b2s (.tmp 73)),some (72,true)⟩,⟨some 75,.mv (.tmp 13),some (72,true)⟩,⟨some 76,.mop (.b2s (.tmp 75)),some (72,true)⟩,⟨some 77,.gen ⟨none,(.binOp .eql 9 (.tmp 74) (.tmp 76) 9),4,"",#[],none⟩,some (72,true)⟩,⟨some 78,.pick (.tmp 72) (.tmp 77) (.const (.bool false)),none⟩,⟨some 79,.mv (.tmp 78),none⟩,⟨some 80,.faddr (.tmp 20) 2,some (79,true)⟩,⟨some 81,.load (.tmp 80) none,some (79,true)⟩,⟨some 82,.int .eql (.tmp 81) (.const (.int .i64 0)),some (79,true)⟩,⟨some 83,.pick (.tmp 79) (.tmp 82) (.const (.bool false)),none⟩,⟨some 84,.mv (.tmp 83),none⟩,⟨some 85,.mv (.tmp 16),some (84,true)⟩,⟨some 86,.mop (.b2s (.tmp 85)),some (84,true)⟩,⟨some 87,.mv (.tmp 19),some (84,true)⟩,⟨some 88,.mop (.b2s (.tmp 87)),some (84,true)⟩,⟨some 89,.gen ⟨none,(.binOp .eql 9 (.tmp 86) (.tmp 88) 9),4,"",#[],none⟩,some (84,true)⟩,⟨some 90,.pick (.tmp 84) (.tmp 89) (.const (.bool false)),none⟩,⟨some 91,.mv (.tmp 90),none⟩,⟨some 92,.mv (.tmp 0),some (91,true)⟩,⟨some 93,.int .rem (.tmp 92) (.const (.int .u8 8)),some (91,true)⟩,⟨some 94,.int .eql (.tmp 93) (.const (.int .u8 4)),some (91,true)⟩,⟨some 95,.mv (.tmp 94),some (91,true)⟩,⟨some 96,.mv (.tmp 0),some (95,false)⟩,⟨some 97,.int .rem (.tmp 96) (.const (.int .u8 8)),some (95,false)⟩,⟨some 98,.int .gtr (.tmp 97) (.const (.int .u8 5)),some (95,false)⟩,⟨some 99,.pick (.tmp 95) (.const (.bool true)) (.tmp 98),some (91,true)⟩,⟨some 100,.mv (.tmp 99),some (91,true)⟩,⟨some 101,.mv (.tmp 9),some (100,false)⟩,⟨some 102,.mop (.b2s (.tmp 101)),some (100,false)⟩,⟨some 103,.mv (.tmp 10),some (100,false)⟩,⟨some 104,.mop (.b2s (.tmp 103)),some (100,false)⟩,⟨some 105,.gen ⟨none,(.binOp .eql 9 (.tmp 102) (.tmp 104) 9),4,"",#[],none⟩,some (100,false)⟩,⟨some 106,.pick (.tmp 100) (.const (.bool true)) (.tmp 105),some (91,true)⟩,⟨some 107,.pick (.tmp 91) (.tmp 106) (.const (.bool false)),none⟩,⟨some 8,.mv (.tmp 107),none⟩]) .ret)))))))))
def F_lontartop_TopNormal:AFunc:=⟨4,108,[.tmp 8],k_lontartop_TopNormal⟩
theorem ok_lontartop_TopNormal:FOK Tryz.prog 4 F_lontartop_TopNormal:=FOK.of [] Tryz.func4 (by kernel_rfl) (by kernel_rfl)
def b_lontarlaw20_Text_0 : ACode := (.seq (.ops [⟨some 22,.int .lss (.tmp 21) (.tmp 20),none⟩]) (.seq (.cond (.tmp 22) .skip (.exit 0)) (.seq (.block 1 (.seq (.ops [⟨some 23,.mv (.tmp 21),none⟩,⟨some 24,.iaddr (.tmp 19) (.tmp 21) 1,none⟩,⟨some 25,.load (.tmp 24) none,none⟩,⟨some 10,.mv (.tmp 23),none⟩,⟨some 11,.mv (.tmp 25),none⟩]) (.seq (.ops [⟨some 26,.mv (.tmp 11),none⟩,⟨some 27,.mv (.tmp 0),none⟩,⟨some 28,.gen ⟨none,(.binOp .eql 9 (.tmp 26) (.tmp 27) 9),4,"",#[],none⟩,none⟩]) (.cond (.tmp 28) (.ops [⟨some 29,.mv (.tmp 10),none⟩,⟨some 9,.mv (.tmp 29),none⟩]) .skip)))) (.ops [⟨some 30,.int .add (.tmp 21) (.const (.int .i64 1)),none⟩,⟨some 21,.mv (.tmp 30),none⟩]))))
def b_lontarlaw20_Text_1:ACode:=(.seq (.ops [⟨some 62,.int .lss (.tmp 61) (.tmp 60),none⟩]) (.seq (.cond (.tmp 62) .skip (.exit 2)) (.seq (.block 3 (.seq (.ops [⟨some 63,.mv (.tmp 61),none⟩,⟨some 64,.iaddr (.tmp 59) (.tmp 61) 1,none⟩,⟨some 65,.load (.tmp 64) none,none⟩,⟨some 17,.mv (.tmp 63),none⟩,⟨some 18,.mv (.tmp 65),none⟩]) (.seq (.ops [⟨some 66,.mv (.tmp 16),none⟩,⟨some 67,.mv (.tmp 18),none⟩,⟨some 68,.conv .u8 (.tmp 67),none⟩,⟨some 69,.bslice 5 1 1 [(.int .u8 0)] [(0,1,(.tmp 68))],none⟩,⟨some 70,.append (.tmp 66) (.tmp 69) 5 1 1,none⟩,⟨some 16,.mv (.tmp 70),none⟩]) (.seq (.ops [⟨some 71,.mv (.tmp 3),none⟩,⟨some 72,.int .rem (.tmp 71) (.const (.int .u8 3)),none⟩,⟨some 73,.int .eql (.tmp 72) (.const (.int .u8 1)),none⟩,⟨some 74,.mv (.tmp 73),none⟩,⟨some 75,.mv (.tmp 17),some (74,true)⟩,⟨some 76,.mv (.tmp 2),some (74,true)⟩,⟨some 77,.len false (.tmp 76),some (74,true)⟩,⟨some 78,.int .lss (.tmp 75) (.tmp 77),some (74,true)⟩,⟨some 79,.pick (.tmp 74) (.tmp 78) (.const (.bool false)),none⟩,⟨some 80,.mv (.tmp 79),none⟩,⟨some 81,.mv (.tmp 2),some (80,true)⟩,⟨some 82,.mv (.tmp 17),some (80,true)⟩,⟨some 83,.iaddr (.tmp 81) (.tmp 82) 1,some (80,true)⟩,⟨some 84,.load (.tmp 83) none,some (80,true)⟩,⟨some 85,.int .lss (.tmp 84) (.const (.int .u8 20)),some (80,true)⟩,⟨some 86,.pick (.tmp 80) (.tmp 85) (.const (.bool false)),none⟩]) (.cond (.tmp 86) (.ops [⟨some 87,.mv (.tmp 16),none⟩,⟨some 88,.mv (.tmp 2),none⟩,⟨some 89,.mv (.tmp 17),none⟩,⟨some 90,.iaddr (.tmp 88) (.tmp 89) 1,none⟩,⟨some 91,.load (.tmp 90) none,none⟩,⟨some 92,.int .mul (.tmp 91) (.const (.int .u8 12)),none⟩,⟨some 93,.bslice 5 1 1 [(.int .u8 0)] [(0,1,(.tmp 92))],none⟩,⟨some 94,.append (.tmp 87) (.tmp 93) 5 1 1,none⟩,⟨some 16,.mv (.tmp 94),none⟩]) .skip))))) (.ops [⟨some 95,.int .add (.tmp 61) (.const (.int .i64 1)),none⟩,⟨some 61,.mv (.tmp 95),none⟩]))))
def k_lontarlaw20_Text:ACode:=(.seq (.ops [⟨some 8,.mv (.const (.slice none 0 0)),none⟩]) (.seq (.ops [⟨some 9,.mv (.const (.int .i64 0)),none⟩]) (.seq (.seq (.ops [⟨some 19,.call (.func 27) [],none⟩,⟨some 20,.len false (.tmp 19),none⟩,⟨some 21,.mv (.const (.int .i64 0)),none⟩]) (.block 0 (.loop [0,1,2,3,9,19,20,21] b_lontarlaw20_Text_0))) (.seq (.seq (.ops [⟨some 31,.mv (.tmp 3),none⟩,⟨some 32,.int .rem (.tmp 31) (.const (.int .u8 3)),none⟩,⟨some 33,.int .eql (.tmp 32) (.const (.int .u8 0)),none⟩]) (.cond (.tmp 33) (.seq (.ops [⟨some 34,.mv (.tmp 2),none⟩,⟨some 35,.mv (.tmp 2),none⟩,⟨some 36,.len false (.tmp 35),none⟩,⟨some 37,.min2 (.tmp 36) (.const (.int .i64 60)),none⟩,⟨some 38,.slice (.tmp 34) none (some (.tmp 37)) 1,none⟩,⟨some 8,.mv (.tmp 38),none⟩]) .ret) .skip)) (.seq (.ops [⟨some 40,.mv (.tmp 0),none⟩,⟨some 41,.call (.func 30) [(.tmp 40)],none⟩,⟨some 39,.mv (.tmp 41),none⟩,⟨some 42,.ext (.tmp 39) 0,none⟩,⟨some 43,.ext (.tmp 39) 1,none⟩,⟨some 12,.mv (.tmp 42),none⟩,⟨some 13,.mv (.tmp 43),none⟩]) (.seq (.seq (.ops [⟨some 44,.mv (.tmp 12),none⟩,⟨some 45,.isNil 3 false (.tmp 44),none⟩]) (.cond (.tmp 45) (.seq (.ops [⟨some 8,.mv (.const (.slice none 0 0)),none⟩]) .ret) .skip)) (.seq (.ops [⟨some 47,.mv (.tmp 12),none⟩,⟨some 48,.mv (.tmp 9),none⟩,⟨some 49,.mv (.tmp 1),none⟩,⟨some 50,.call (.func 31) [(.tmp 48),(.tmp 49)],none⟩,⟨some 51,.call (.func 21) [(.tmp 47),(.tmp 50)],none⟩,⟨some 52,.call (.func 20) [(.tmp 51)],none⟩,⟨some 46,.mv (.tmp 52),none⟩,⟨some 53,.ext (.tmp 46) 0,none⟩,⟨some 54,.ext (.tmp 46) 1,none⟩,⟨some 15,.alloc [(.int .i64 0),(.int .i64 0),(.slice none 0 0),(.int .i64 0)] 36,none⟩,⟨some 14,.mv (.tmp 53),none⟩,⟨none,.store (.tmp 15) (.tmp 54) 4,none⟩]) (.seq (.ops [⟨some 16,.mv (.const (.slice none 0 0)),none⟩]) (.seq (.seq (.ops [⟨some 55,.mv (.tmp 14),none⟩,⟨some 56,.mv (.tmp 14),none⟩,⟨some 57,.len false (.tmp 56),none⟩,⟨some 58,.min2 (.tmp 57) (.const (.int .i64 100)),none⟩,⟨some 59,.slice (.tmp 55) none (some (.tmp 58)) 1,none⟩,⟨some 60,.len false (.tmp 59),none⟩,⟨some 61,.mv (.const (.int .i64 0)),none⟩]) (.block 2 (.loop [2,3,16,59,60,61] b_lontarlaw20_Text_1))) (.seq (.ops [⟨some 96,.mv (.tmp 16),none⟩,⟨some 8,.mv (.tmp 96),none⟩]) .ret))))))))))
def F_lontarlaw20_Text:AFunc:=⟨4,97,[.tmp 8],k_lontarlaw20_Text⟩
theorem ok_lontarlaw20_Text:FOK Tryz.prog 12 F_lontarlaw20_Text:=FOK.of [[0,1,2,3,9,19,20,21],[2,3,16,59,60,61]] Tryz.func12 (by kernel_rfl) (by kernel_rfl)
def b_lontarlaw19_Scalars_0:ACode:=(.seq (.ops [⟨some 34,.int .lss (.tmp 33) (.tmp 32),none⟩]) (.seq (.cond (.tmp 34) .skip (.exit 1)) (.seq (.block 2 (.seq (.ops [⟨some 35,.iaddr (.tmp 31) (.tmp 33) 1,none⟩,⟨some 36,.load (.tmp 35) none,none⟩,⟨some 7,.mv (.tmp 36),none⟩]) (.seq (.ops [⟨some 37,.mv (.tmp 7),none⟩,⟨some 38,.conv .i64 (.tmp 37),none⟩,⟨some 39,.int .rem (.tmp 38) (.const (.int .i64 96)),none⟩,⟨some 40,.int .add (.const (.int .i64 3584)) (.tmp 39),none⟩,⟨some 8,.mv (.tmp 40),none⟩]) (.seq (.seq (.ops [⟨some 41,.mv (.tmp 7),none⟩,⟨some 42,.int .gtr (.tmp 41) (.const (.int .u8 200)),none⟩]) (.cond (.tmp 42) (.ops [⟨some 43,.mv (.tmp 7),none⟩,⟨some 44,.conv .i64 (.tmp 43),none⟩,⟨some 45,.int .sub (.tmp 44) (.const (.int .i64 120)),none⟩,⟨some 8,.mv (.tmp 45),none⟩]) .skip)) (.ops [⟨some 46,.mv (.tmp 5),none⟩,⟨some 47,.mv (.tmp 8),none⟩,⟨some 48,.bslice 3 1 1 [(.int .i64 0)] [(0,1,(.tmp 47))],none⟩,⟨some 49,.append (.tmp 46) (.tmp 48) 3 1 8,none⟩,⟨some 5,.mv (.tmp 49),none⟩]))))) (.ops [⟨some 50,.int .add (.tmp 33) (.const (.int .i64 1)),none⟩,⟨some 33,.mv (.tmp 50),none⟩]))))
def k_lontarlaw19_Scalars : ACode := (.seq (.ops [⟨some 4,.mv (.const (.slice none 0 0)),none⟩]) (.seq (.seq (.ops [⟨some 9,.call (.func 52) [],none⟩,⟨some 10,.mv (.tmp 0),none⟩,⟨some 11,.iaddr (.tmp 9) (.tmp 10) 1,none⟩,⟨some 12,.load (.tmp 11) none,none⟩]) (.block 0 (.seq (.seq (.ops [⟨some 14,.gen ⟨none,(.binOp .eql 9 (.tmp 12) (.const (.string ⟨#[118,105,115,99,105,105]⟩)) 9),4,"",#[],none⟩,none⟩,⟨some 13,.mv (.tmp 14),none⟩]) (.cond (.tmp 13) .skip (.seq (.ops [⟨some 15,.gen ⟨none,(.binOp .eql 9 (.tmp 12) (.const (.string ⟨#[116,99,118,110,51]⟩)) 9),4,"",#[],none⟩,none⟩,⟨some 13,.mv (.tmp 15),none⟩]) (.cond (.tmp 13) .skip (.ops [⟨some 16,.gen ⟨none,(.binOp .eql 9 (.tmp 12) (.const (.string ⟨#[118,110,105]⟩)) 9),4,"",#[],none⟩,none⟩,⟨some 13,.mv (.tmp 16),none⟩]))))) (.cond (.tmp 13) (.seq (.ops [⟨some 17,.mv (.tmp 1),none⟩,⟨some 18,.call (.func 53) [(.tmp 17)],none⟩,⟨some 4,.mv (.tmp 18),none⟩]) .ret) (.seq (.ops [⟨some 20,.gen ⟨none,(.binOp .eql 9 (.tmp 12) (.const (.string ⟨#[116,115,99,105,105]⟩)) 9),4,"",#[],none⟩,none⟩,⟨some 19,.mv (.tmp 20),none⟩]) (.cond (.tmp 19) (.seq (.ops [⟨some 21,.mv (.tmp 1),none⟩,⟨some 22,.call (.func 54) [(.tmp 21)],none⟩,⟨some 4,.mv (.tmp 22),none⟩]) .ret) (.seq (.ops [⟨some 24,.gen ⟨none,(.binOp .eql 9 (.tmp 12) (.const (.string ⟨#[105,115,99,105,105]⟩)) 9),4,"",#[],none⟩,none⟩,⟨some 23,.mv (.tmp 24),none⟩]) (.cond (.tmp 23) (.seq (.ops [⟨some 25,.mv (.tmp 1),none⟩,⟨some 26,.call (.func 55) [(.tmp 25)],none⟩,⟨some 4,.mv (.tmp 26),none⟩]) .ret) .skip)))))))) (.seq (.ops [⟨some 5,.mv (.const (.slice none 0 0)),none⟩]) (.seq (.seq (.ops [⟨some 27,.mv (.tmp 1),none⟩,⟨some 28,.mv (.tmp 1),none⟩,⟨some 29,.len false (.tmp 28),none⟩,⟨some 30,.min2 (.tmp 29) (.const (.int .i64 60)),none⟩,⟨some 31,.slice (.tmp 27) none (some (.tmp 30)) 1,none⟩,⟨some 32,.len false (.tmp 31),none⟩,⟨some 33,.mv (.const (.int .i64 0)),none⟩]) (.block 1 (.loop [5,31,32,33] b_lontarlaw19_Scalars_0))) (.seq (.ops [⟨some 51,.mv (.tmp 5),none⟩,⟨some 4,.mv (.tmp 51),none⟩]) .ret)))))
def F_lontarlaw19_Scalars:AFunc:=⟨2,52,[.tmp 4],k_lontarlaw19_Scalars⟩
theorem ok_lontarlaw19_Scalars:FOK Tryz.prog 31 F_lontarlaw19_Scalars:=FOK.of [[5,31,32,33]] Tryz.func31 (by kernel_rfl) (by kernel_rfl)
def k_lontarlaw19_names:ACode:=(.seq (.ops [⟨some 0,.mv (.const (.slice none 0 0)),none⟩]) (.seq (.ops [⟨some 1,.bslice 9 8 1 [(.string ⟨#[]⟩)] [(0,1,(.const (.string ⟨#[117,116,102,45,56]⟩))),(1,1,(.const (.string ⟨#[97,115,99,105,105]⟩))),(2,1,(.const (.string ⟨#[118,105,115,99,105,105]⟩))),(3,1,(.const (.string ⟨#[116,99,118,110,51]⟩))),(4,1,(.const (.string ⟨#[118,110,105]⟩))),(5,1,(.const (.string ⟨#[116,105,115,45,54,50,48]⟩))),(6,1,(.const (.string ⟨#[116,115,99,105,105]⟩))),(7,1,(.const (.string ⟨#[105,115,99,105,105]⟩)))],none⟩,⟨some 0,.mv (.tmp 1),none⟩]) .ret))
def F_lontarlaw19_names:AFunc:=⟨0,2,[.tmp 0],k_lontarlaw19_names⟩
theorem ok_lontarlaw19_names:FOK Tryz.prog 52 F_lontarlaw19_names:=FOK.of [] Tryz.func52 (by kernel_rfl) (by kernel_rfl)
def b_lontarlaw10_Some_0:ACode:=(.seq (.ops [⟨some 22,.int .lss (.tmp 21) (.tmp 20),none⟩]) (.seq (.cond (.tmp 22) .skip (.exit 0)) (.seq (.block 1 (.seq (.ops [⟨some 23,.iaddr (.tmp 19) (.tmp 21) 1,none⟩,⟨some 24,.load (.tmp 23) none,none⟩,⟨some 7,.mv (.tmp 24),none⟩]) (.seq (.ops [⟨some 26,.mv (.tmp 7),none⟩,⟨some 27,.conv .i64 (.tmp 26),none⟩,⟨some 28,.int .rem (.tmp 27) (.const (.int .i64 148)),none⟩,⟨some 29,.call (.func 77) [(.tmp 28)],none⟩,⟨some 25,.mv (.tmp 29),none⟩,⟨some 30,.ext (.tmp 25) 0,none⟩,⟨some 31,.ext (.tmp 25) 1,none⟩,⟨some 32,.ext (.tmp 25) 2,none⟩,⟨some 8,.alloc [(.int .i64 0),(.complex .f64 0 0)] 154,none⟩,⟨none,.store (.tmp 8) (.tmp 30) 2,none⟩,⟨some 9,.mv (.tmp 31),none⟩,⟨some 10,.mv (.tmp 32),none⟩]) (.seq (.seq (.ops [⟨some 33,.mv (.tmp 7),none⟩,⟨some 34,.int .gtr (.tmp 33) (.const (.int .u8 190)),none⟩]) (.cond (.tmp 34) (.ops [⟨some 35,.mv (.tmp 3),none⟩,⟨some 36,.mv (.tmp 7),none⟩,⟨some 37,.int .rem (.tmp 36) (.const (.int .u8 8)),none⟩,⟨some 38,.iaddr (.tmp 35) (.tmp 37) 1,none⟩,⟨some 39,.load (.tmp 38) none,none⟩,⟨some 9,.mv (.tmp 39),none⟩]) .skip)) (.seq (.seq (.ops [⟨some 40,.mv (.tmp 7),none⟩,⟨some 41,.int .lss (.tmp 40) (.const (.int .u8 6)),none⟩]) (.cond (.tmp 41) (.ops [⟨some 42,.mv (.tmp 7),none⟩,⟨some 43,.conv .i64 (.tmp 42),none⟩,⟨some 44,.int .add (.const (.int .i64 120)) (.tmp 43),none⟩,⟨some 9,.mv (.tmp 44),none⟩]) .skip)) (.ops [⟨some 45,.mv (.tmp 5),none⟩,⟨some 46,.mv (.tmp 9),none⟩,⟨some 47,.bslice 3 1 1 [(.int .i64 0)] [(0,1,(.tmp 46))],none⟩,⟨some 48,.append (.tmp 45) (.tmp 47) 3 1 8,none⟩,⟨some 5,.mv (.tmp 48),none⟩])))))) (.ops [⟨some 49,.int .add (.tmp 21) (.const (.int .i64 1)),none⟩,⟨some 21,.mv (.tmp 49),none⟩]))))
def k_lontarlaw10_Some:ACode:=(.seq (.ops [⟨some 2,.mv (.const (.slice none 0 0)),none⟩]) (.seq (.ops [⟨some 12,.call (.func 76) [],none⟩,⟨some 11,.mv (.tmp 12),none⟩,⟨some 13,.ext (.tmp 11) 0,none⟩,⟨some 14,.ext (.tmp 11) 1,none⟩,⟨some 3,.mv (.tmp 13),none⟩,⟨some 4,.mv (.tmp 14),none⟩]) (.seq (.ops [⟨some 5,.mv (.const (.slice none 0 0)),none⟩]) (.seq (.seq (.ops [⟨some 15,.mv (.tmp 0),none⟩,⟨some 16,.mv (.tmp 0),none⟩,⟨some 17,.len false (.tmp 16),none⟩,⟨some 18,.min2 (.tmp 17) (.const (.int .i64 60)),none⟩,⟨some 19,.slice (.tmp 15) none (some (.tmp 18)) 1,none⟩,⟨some 20,.len false (.tmp 19),none⟩,⟨some 21,.mv (.const (.int .i64 0)),none⟩]) (.block 0 (.loop [3,5,19,20,21] b_lontarlaw10_Some_0))) (.seq (.ops [⟨some 50,.mv (.tmp 5),none⟩,⟨some 2,.mv (.tmp 50),none⟩]) .ret)))))
def F_lontarlaw10_Some:AFunc:=⟨1,51,[.tmp 2],k_lontarlaw10_Some⟩
theorem ok_lontarlaw10_Some:FOK Tryz.prog 53 F_lontarlaw10_Some:=FOK.of [[3,5,19,20,21]] Tryz.func53 (by kernel_rfl) (by kernel_rfl)
def b_lontarlaw17_Some_0:ACode:=(.seq (.ops [⟨some 16,.int .lss (.tmp 15) (.tmp 14),none⟩]) (.seq (.cond (.tmp 16) .skip (.exit 0)) (.seq (.block 1 (.seq (.ops [⟨some 17,.iaddr (.tmp 13) (.tmp 15) 1,none⟩,⟨some 18,.load (.tmp 17) none,none⟩,⟨some 6,.mv (.tmp 18),none⟩]) (.seq (.ops [⟨some 19,.call (.func 78) [],none⟩,⟨some 20,.mv (.tmp 6),none⟩,⟨some 21,.int .rem (.tmp 20) (.const (.int .u8 22)),none⟩,⟨some 22,.iaddr (.tmp 19) (.tmp 21) 1,none⟩,⟨some 23,.load (.tmp 22) none,none⟩,⟨some 7,.mv (.tmp 23),none⟩]) (.seq (.seq (.ops [⟨some 24,.mv (.tmp 6),none⟩,⟨some 25,.int .gtr (.tmp 24) (.const (.int .u8 140)),none⟩]) (.cond (.tmp 25) (.ops [⟨some 26,.mv (.tmp 3),none⟩,⟨some 27,.mv (.tmp 6),none⟩,⟨some 28,.conv .i64 (.tmp 27),none⟩,⟨some 29,.mv (.tmp 3),none⟩,⟨some 30,.len false (.tmp 29),none⟩,⟨some 31,.int .rem (.tmp 28) (.tmp 30),none⟩,⟨some 32,.iaddr (.tmp 26) (.tmp 31) 1,none⟩,⟨some 33,.load (.tmp 32) none,none⟩,⟨some 7,.mv (.tmp 33),none⟩]) .skip)) (.ops [⟨some 34,.mv (.tmp 4),none⟩,⟨some 35,.mv (.tmp 7),none⟩,⟨some 36,.bslice 3 1 1 [(.int .i64 0)] [(0,1,(.tmp 35))],none⟩,⟨some 37,.append (.tmp 34) (.tmp 36) 3 1 8,none⟩,⟨some 4,.mv (.tmp 37),none⟩]))))) (.ops [⟨some 38,.int .add (.tmp 15) (.const (.int .i64 1)),none⟩,⟨some 15,.mv (.tmp 38),none⟩]))))
def k_lontarlaw17_Some:ACode:=(.seq (.ops [⟨some 2,.mv (.const (.slice none 0 0)),none⟩]) (.seq (.ops [⟨some 8,.bslice 3 13 1 [(.int .i64 0)] [(0,1,(.const (.int .i64 3014))),(1,1,(.const (.int .i64 3015))),(2,1,(.const (.int .i64 3016))),(3,1,(.const (.int .i64 3021))),(4,1,(.const (.int .i64 3006))),(5,1,(.const (.int .i64 3007))),(6,1,(.const (.int .i64 3008))),(7,1,(.const (.int .i64 3031))),(8,1,(.const (.int .i64 3018))),(9,1,(.const (.int .i64 3019))),(10,1,(.const (.int .i64 3020))),(11,1,(.const (.int .i64 2949))),(12,1,(.const (.int .i64 97)))],none⟩,⟨some 3,.mv (.tmp 8),none⟩]) (.seq (.ops [⟨some 4,.mv (.const (.slice none 0 0)),none⟩]) (.seq (.seq (.ops [⟨some 9,.mv (.tmp 0),none⟩,⟨some 10,.mv (.tmp 0),none⟩,⟨some 11,.len false (.tmp 10),none⟩,⟨some 12,.min2 (.tmp 11) (.const (.int .i64 60)),none⟩,⟨some 13,.slice (.tmp 9) none (some (.tmp 12)) 1,none⟩,⟨some 14,.len false (.tmp 13),none⟩,⟨some 15,.mv (.const (.int .i64 0)),none⟩]) (.block 0 (.loop [3,4,13,14,15] b_lontarlaw17_Some_0))) (.seq (.ops [⟨some 39,.mv (.tmp 4),none⟩,⟨some 2,.mv (.tmp 39),none⟩]) .ret)))))
def F_lontarlaw17_Some:AFunc:=⟨1,40,[.tmp 2],k_lontarlaw17_Some⟩
theorem ok_lontarlaw17_Some:FOK Tryz.prog 54 F_lontarlaw17_Some:=FOK.of [[3,4,13,14,15]] Tryz.func54 (by kernel_rfl) (by kernel_rfl)
def b_lontarlaw18_Scalars_0:ACode:=(.seq (.ops [⟨some 13,.int .lss (.tmp 12) (.tmp 11),none⟩]) (.seq (.cond (.tmp 13) .skip (.exit 0)) (.seq (.block 1 (.seq (.ops [⟨some 14,.iaddr (.tmp 10) (.tmp 12) 1,none⟩,⟨some 15,.load (.tmp 14) none,none⟩,⟨some 5,.mv (.tmp 15),none⟩]) (.block 2 (.seq (.ops [⟨some 26,.mv (.tmp 5),none⟩,⟨some 27,.int .lss (.tmp 26) (.const (.int .u8 30)),none⟩,⟨some 25,.mv (.tmp 27),none⟩]) (.cond (.tmp 25) (.ops [⟨some 28,.mv (.tmp 3),none⟩,⟨some 29,.bslice 3 10 1 [(.int .i64 0)] [(0,1,(.const (.int .i64 8204))),(1,1,(.const (.int .i64 8205))),(2,1,(.const (.int .i64 2404))),(3,1,(.const (.int .i64 97))),(4,1,(.const (.int .i64 2364))),(5,1,(.const (.int .i64 2381))),(6,1,(.const (.int .i64 2509))),(7,1,(.const (.int .i64 2492))),(8,1,(.const (.int .i64 2314))),(9,1,(.const (.int .i64 3349)))],none⟩,⟨some 30,.mv (.tmp 5),none⟩,⟨some 31,.int .rem (.tmp 30) (.const (.int .u8 10)),none⟩,⟨some 32,.iaddr (.tmp 29) (.tmp 31) 1,none⟩,⟨some 33,.load (.tmp 32) none,none⟩,⟨some 34,.bslice 3 1 1 [(.int .i64 0)] [(0,1,(.tmp 33))],none⟩,⟨some 35,.append (.tmp 28) (.tmp 34) 3 1 8,none⟩,⟨some 3,.mv (.tmp 35),none⟩]) (.seq (.ops [⟨some 37,.mv (.tmp 5),none⟩,⟨some 38,.int .lss (.tmp 37) (.const (.int .u8 140)),none⟩,⟨some 36,.mv (.tmp 38),none⟩]) (.cond (.tmp 36) (.ops [⟨some 39,.mv (.tmp 3),none⟩,⟨some 40,.mv (.tmp 5),none⟩,⟨some 41,.conv .i64 (.tmp 40),none⟩,⟨some 42,.int .rem (.tmp 41) (.const (.int .i64 128)),none⟩,⟨some 43,.int .add (.const (.int .i64 2304)) (.tmp 42),none⟩,⟨some 44,.bslice 3 1 1 [(.int .i64 0)] [(0,1,(.tmp 43))],none⟩,⟨some 45,.append (.tmp 39) (.tmp 44) 3 1 8,none⟩,⟨some 3,.mv (.tmp 45),none⟩]) (.seq (.ops [⟨some 47,.mv (.tmp 5),none⟩,⟨some 48,.int .lss (.tmp 47) (.const (.int .u8 220)),none⟩,⟨some 46,.mv (.tmp 48),none⟩]) (.cond (.tmp 46) (.ops [⟨some 49,.mv (.tmp 3),none⟩,⟨some 50,.mv (.tmp 5),none⟩,⟨some 51,.conv .i64 (.tmp 50),none⟩,⟨some 52,.int .rem (.tmp 51) (.const (.int .i64 128)),none⟩,⟨some 53,.int .add (.const (.int .i64 2432)) (.tmp 52),none⟩,⟨some 54,.bslice 3 1 1 [(.int .i64 0)] [(0,1,(.tmp 53))],none⟩,⟨some 55,.append (.tmp 49) (.tmp 54) 3 1 8,none⟩,⟨some 3,.mv (.tmp 55),none⟩]) (.ops [⟨some 16,.mv (.tmp 3),none⟩,⟨some 17,.mv (.tmp 5),none⟩,⟨some 18,.int .rem (.tmp 17) (.const (.int .u8 9)),none⟩,⟨some 19,.conv .i64 (.tmp 18),none⟩,⟨some 20,.int .mul (.const (.int .i64 128)) (.tmp 19),none⟩,⟨some 21,.int .add (.const (.int .i64 2304)) (.tmp 20),none⟩,⟨some 22,.int .add (.tmp 21) (.const (.int .i64 21)),none⟩,⟨some 23,.bslice 3 1 1 [(.int .i64 0)] [(0,1,(.tmp 22))],none⟩,⟨some 24,.append (.tmp 16) (.tmp 23) 3 1 8,none⟩,⟨some 3,.mv (.tmp 24),none⟩])))))))))) (.ops [⟨some 56,.int .add (.tmp 12) (.const (.int .i64 1)),none⟩,⟨some 12,.mv (.tmp 56),none⟩]))))
def k_lontarlaw18_Scalars:ACode:=(.seq (.ops [⟨some 2,.mv (.const (.slice none 0 0)),none⟩]) (.seq (.ops [⟨some 3,.mv (.const (.slice none 0 0)),none⟩]) (.seq (.seq (.ops [⟨some 6,.mv (.tmp 0),none⟩,⟨some 7,.mv (.tmp 0),none⟩,⟨some 8,.len false (.tmp 7),none⟩,⟨some 9,.min2 (.tmp 8) (.const (.int .i64 60)),none⟩,⟨some 10,.slice (.tmp 6) none (some (.tmp 9)) 1,none⟩,⟨some 11,.len false (.tmp 10),none⟩,⟨some 12,.mv (.const (.int .i64 0)),none⟩]) (.block 0 (.loop [3,10,11,12] b_lontarlaw18_Scalars_0))) (.seq (.ops [⟨some 57,.mv (.tmp 3),none⟩,⟨some 2,.mv (.tmp 57),none⟩]) .ret))))
def F_lontarlaw18_Scalars:AFunc:=⟨1,58,[.tmp 2],k_lontarlaw18_Scalars⟩
theorem ok_lontarlaw18_Scalars:FOK Tryz.prog 55 F_lontarlaw18_Scalars:=FOK.of [[3,10,11,12]] Tryz.func55 (by kernel_rfl) (by kernel_rfl)
def k_lontarlaw09_Marks:ACode:=(.seq (.ops [⟨some 0,.mv (.const (.slice none 0 0)),none⟩,⟨some 1,.mv (.const (.slice none 0 0)),none⟩]) (.seq (.ops [⟨some 2,.bslice 3 8 1 [(.int .i64 0)] [(0,1,(.const (.int .i64 774))),(1,1,(.const (.int .i64 770))),(2,1,(.const (.int .i64 795))),(3,1,(.const (.int .i64 768))),(4,1,(.const (.int .i64 769))),(5,1,(.const (.int .i64 777))),(6,1,(.const (.int .i64 771))),(7,1,(.const (.int .i64 803)))],none⟩,⟨some 3,.bslice 46 8 1 [(.complex .f64 0 0)] [(0,1,(.const (.complex .f64 4607182418800017408 0))),(1,1,(.const (.complex .f64 4611686018427387904 0))),(2,1,(.const (.complex .f64 4613937818241073152 0))),(3,1,(.const (.complex .f64 0 4607182418800017408))),(4,1,(.const (.complex .f64 0 4611686018427387904))),(5,1,(.const (.complex .f64 0 4613937818241073152))),(6,1,(.const (.complex .f64 0 4616189618054758400))),(7,1,(.const (.complex .f64 0 4617315517961601024)))],none⟩,⟨some 0,.mv (.tmp 2),none⟩,⟨some 1,.mv (.tmp 3),none⟩]) .ret))
def F_lontarlaw09_Marks:AFunc:=⟨0,4,[.tmp 0,.tmp 1],k_lontarlaw09_Marks⟩
theorem ok_lontarlaw09_Marks:FOK Tryz.prog 76 F_lontarlaw09_Marks:=FOK.of [] Tryz.func76 (by kernel_rfl) (by kernel_rfl)
def b_lontarlaw09_Letter_0 : ACode := (.seq (.ops [⟨some 26,.int .lss (.tmp 25) (.tmp 24),none⟩]) (.seq (.cond (.tmp 26) .skip (.exit 4)) (.seq (.block 5 (.seq (.ops [⟨some 27,.mv (.tmp 25),none⟩,⟨some 28,.iaddr (.tmp 23) (.tmp 25) 1,none⟩,⟨some 29,.load (.tmp 28) none,none⟩,⟨some 9,.mv (.tmp 27),none⟩,⟨some 10,.mv (.tmp 29),none⟩]) (.seq (.seq (.ops [⟨some 30,.mv (.tmp 5),none⟩,⟨some 31,.mv (.tmp 0),none⟩,⟨some 32,.int .eql (.tmp 30) (.tmp 31),none⟩]) (.cond (.tmp 32) (.seq (.ops [⟨some 33,.faddr (.tmp 8) 0,none⟩,⟨some 34,.load (.tmp 33) none,none⟩,⟨some 11,.mv (.tmp 34),none⟩]) (.seq (.seq (.ops [⟨some 35,.mv (.tmp 6),none⟩,⟨some 36,.int .eql (.tmp 35) (.const (.int .i64 1)),none⟩]) (.cond (.tmp 36) (.ops [⟨some 37,.mv (.tmp 11),none⟩,⟨some 38,.call (.func 105) [(.tmp 37)],none⟩,⟨some 39,.mv (.tmp 10),none⟩,⟨some 40,.call (.func 105) [(.tmp 39)],none⟩,⟨some 11,.mv (.tmp 38),none⟩,⟨some 10,.mv (.tmp 40),none⟩]) .skip)) (.seq (.ops [⟨some 41,.mv (.tmp 11),none⟩,⟨some 42,.faddr (.tmp 8) 1,none⟩,⟨some 43,.load (.tmp 42) none,none⟩,⟨some 44,.gen ⟨none,(.convert 3 49 (.tmp 43)),49,"",#[],none⟩,none⟩,⟨some 45,.mv (.tmp 9),none⟩,⟨some 46,.gen ⟨none,(.convert 3 49 (.tmp 45)),49,"",#[],none⟩,none⟩,⟨some 47,.gen ⟨none,(.call ⟨.builtin .complex,#[(.tmp 44),(.tmp 46)],#[49,49]⟩),46,"",#[],none⟩,none⟩,⟨some 48,.build [(.int .i64 0),(.complex .f64 0 0)] [(0,1,(.tmp 41)),(1,1,(.tmp 47))],none⟩,⟨some 49,.mv (.tmp 10),none⟩,⟨none,.store (.tmp 2) (.tmp 48) 2,none⟩,⟨some 3,.mv (.tmp 49),none⟩,⟨some 4,.mv (.const (.bool true)),none⟩]) .ret))) .skip)) (.ops [⟨some 50,.mv (.tmp 5),none⟩,⟨some 51,.int .add (.tmp 50) (.const (.int .i64 1)),none⟩,⟨some 5,.mv (.tmp 51),none⟩])))) (.ops [⟨some 52,.int .add (.tmp 25) (.const (.int .i64 1)),none⟩,⟨some 25,.mv (.tmp 52),none⟩]))))
def b_lontarlaw09_Letter_1:ACode:=(.seq (.ops [⟨some 19,.int .lss (.tmp 18) (.tmp 17),none⟩]) (.seq (.cond (.tmp 19) .skip (.exit 2)) (.seq (.block 3 (.seq (.ops [⟨some 20,.iaddr (.tmp 16) (.tmp 18) 3,none⟩,⟨some 21,.load (.tmp 20) (some 3),none⟩,⟨some 8,.alloc [(.int .i64 0),(.int .i64 0),(.slice none 0 0)] 201,none⟩,⟨none,.store (.tmp 8) (.tmp 21) 3,none⟩]) (.seq (.ops [⟨some 22,.faddr (.tmp 8) 2,none⟩,⟨some 23,.load (.tmp 22) none,none⟩,⟨some 24,.len false (.tmp 23),none⟩,⟨some 25,.mv (.const (.int .i64 0)),none⟩]) (.block 4 (.loop [0,2,5,6,8,16,17,18,23,24,25] b_lontarlaw09_Letter_0))))) (.ops [⟨some 53,.int .add (.tmp 18) (.const (.int .i64 1)),none⟩,⟨some 18,.mv (.tmp 53),none⟩]))))
def b_lontarlaw09_Letter_2:ACode:=(.seq (.seq (.ops [⟨some 12,.mv (.tmp 6),none⟩,⟨some 13,.int .lss (.tmp 12) (.const (.int .i64 2)),none⟩]) (.cond (.tmp 13) .skip (.exit 0))) (.seq (.block 1 (.seq (.ops [⟨some 16,.call (.func 104) [],none⟩,⟨some 17,.len false (.tmp 16),none⟩,⟨some 18,.mv (.const (.int .i64 0)),none⟩]) (.block 2 (.loop [0,2,5,6,16,17,18] b_lontarlaw09_Letter_1)))) (.ops [⟨some 14,.mv (.tmp 6),none⟩,⟨some 15,.int .add (.tmp 14) (.const (.int .i64 1)),none⟩,⟨some 6,.mv (.tmp 15),none⟩])))
def k_lontarlaw09_Letter:ACode:=(.seq (.ops [⟨some 2,.alloc [(.int .i64 0),(.complex .f64 0 0)] 154,none⟩,⟨some 3,.mv (.const (.int .i64 0)),none⟩,⟨some 4,.mv (.const (.bool false)),none⟩]) (.seq (.ops [⟨some 5,.mv (.const (.int .i64 0)),none⟩]) (.seq (.seq (.ops [⟨some 6,.mv (.const (.int .i64 0)),none⟩]) (.block 0 (.loop [0,2,5,6] b_lontarlaw09_Letter_2))) (.seq (.ops [⟨some 54,.build [(.int .i64 0),(.complex .f64 0 0)] [],none⟩,⟨none,.store (.tmp 2) (.tmp 54) 2,none⟩,⟨some 3,.mv (.const (.int .i64 0)),none⟩,⟨some 4,.mv (.const (.bool false)),none⟩]) .ret))))
def F_lontarlaw09_Letter:AFunc:=⟨1,55,[.cell 2 (some 2),.tmp 3,.tmp 4],k_lontarlaw09_Letter⟩
theorem ok_lontarlaw09_Letter:FOK Tryz.prog 77 F_lontarlaw09_Letter:=FOK.of [[0,2,5,6],[0,2,5,6,16,17,18],[0,2,5,6,8,16,17,18,23,24,25]] Tryz.func77 (by kernel_rfl) (by kernel_rfl)
def k_lontarlaw17_consonants:ACode:=(.seq (.ops [⟨some 0,.mv (.const (.slice none 0 0)),none⟩]) (.seq (.ops [⟨some 1,.bslice 3 22 1 [(.int .i64 0)] [(0,1,(.const (.int .i64 2965))),(1,1,(.const (.int .i64 2969))),(2,1,(.const (.int .i64 2970))),(3,1,(.const (.int .i64 2974))),(4,1,(.const (.int .i64 2975))),(5,1,(.const (.int .i64 2979))),(6,1,(.const (.int .i64 2980))),(7,1,(.const (.int .i64 2984))),(8,1,(.const (.int .i64 2986))),(9,1,(.const (.int .i64 2990))),(10,1,(.const (.int .i64 2991))),(11,1,(.const (.int .i64 2992))),(12,1,(.const (.int .i64 2994))),(13,1,(.const (.int .i64 2997))),(14,1,(.const (.int .i64 2996))),(15,1,(.const (.int .i64 2995))),(16,1,(.const (.int .i64 2993))),(17,1,(.const (.int .i64 2985))),(18,1,(.const (.int .i64 2972))),(19,1,(.const (.int .i64 2999))),(20,1,(.const (.int .i64 3000))),(21,1,(.const (.int .i64 3001)))],none⟩,⟨some 0,.mv (.tmp 1),none⟩]) .ret))
def F_lontarlaw17_consonants:AFunc:=⟨0,2,[.tmp 0],k_lontarlaw17_consonants⟩
theorem ok_lontarlaw17_consonants:FOK Tryz.prog 78 F_lontarlaw17_consonants:=FOK.of [] Tryz.func78 (by kernel_rfl) (by kernel_rfl)
def k_lontarlaw09_Rows:ACode:=(.seq (.ops [⟨some 0,.mv (.const (.slice none 0 0)),none⟩]) (.seq (.ops [⟨some 1,.bslice 3 6 1 [(.int .i64 0)] [(0,1,(.const (.int .i64 97))),(1,1,(.const (.int .i64 224))),(2,1,(.const (.int .i64 225))),(3,1,(.const (.int .i64 7843))),(4,1,(.const (.int .i64 227))),(5,1,(.const (.int .i64 7841)))],none⟩,⟨some 2,.build [(.int .i64 0),(.int .i64 0),(.slice none 0 0)] [(0,1,(.const (.int .i64 97))),(1,1,(.const (.int .i64 0))),(2,1,(.tmp 1))],none⟩,⟨some 3,.bslice 3 6 1 [(.int .i64 0)] [(0,1,(.const (.int .i64 259))),(1,1,(.const (.int .i64 7857))),(2,1,(.const (.int .i64 7855))),(3,1,(.const (.int .i64 7859))),(4,1,(.const (.int .i64 7861))),(5,1,(.const (.int .i64 7863)))],none⟩,⟨some 4,.build [(.int .i64 0),(.int .i64 0),(.slice none 0 0)] [(0,1,(.const (.int .i64 97))),(1,1,(.const (.int .i64 1))),(2,1,(.tmp 3))],none⟩,⟨some 5,.bslice 3 6 1 [(.int .i64 0)] [(0,1,(.const (.int .i64 226))),(1,1,(.const (.int .i64 7847))),(2,1,(.const (.int .i64 7845))),(3,1,(.const (.int .i64 7849))),(4,1,(.const (.int .i64 7851))),(5,1,(.const (.int .i64 7853)))],none⟩,⟨some 6,.build [(.int .i64 0),(.int .i64 0),(.slice none 0 0)] [(0,1,(.const (.int .i64 97))),(1,1,(.const (.int .i64 2))),(2,1,(.tmp 5))],none⟩,⟨some 7,.bslice 3 6 1 [(.int .i64 0)] [(0,1,(.const (.int .i64 101))),(1,1,(.const (.int .i64 232))),(2,1,(.const (.int .i64 233))),(3,1,(.const (.int .i64 7867))),(4,1,(.const (.int .i64 7869))),(5,1,(.const (.int .i64 7865)))],none⟩,⟨some 8,.build [(.int .i64 0),(.int .i64 0),(.slice none 0 0)] [(0,1,(.const (.int .i64 101))),(1,1,(.const (.int .i64 0))),(2,1,(.tmp 7))],none⟩,⟨some 9,.bslice 3 6 1 [(.int .i64 0)] [(0,1,(.const (.int .i64 234))),(1,1,(.const (.int .i64 7873))),(2,1,(.const (.int .i64 7871))),(3,1,(.const (.int .i64 7875))),(4,1,(.const (.int .i64 7877))),(5,1,(.const (.int .i64 7879)))],none⟩,⟨some 10,.build [(.int .i64 0),(.int .i64 0),(.slice none 0 0)] [(0,1,(.const (.int .i64 101))),(1,1,(.const (.int .i64 2))),(2,1,(.tmp 9))],none⟩,⟨some 11,.bslice 3 6 1 [(.int .i64 0)] [(0,1,(.const (.int .i64 105))),(1,1,(.const (.int .i64 236))),(2,1,(.const (.int .i64 237))),(3,1,(.const (.int .i64 7881))),(4,1,(.const (.int .i64 297))),(5,1,(.const (.int .i64 7883)))],none⟩,⟨some 12,.build [(.int .i64 0),(.int .i64 0),(.slice none 0 0)] [(0,1,(.const (.int .i64 105))),(1,1,(.const (.int .i64 0))),(2,1,(.tmp 11))],none⟩,⟨some 13,.bslice 3 6 1 [(.int .i64 0)] [(0,1,(.const (.int .i64 111))),(1,1,(.const (.int .i64 242))),(2,1,(.const (.int .i64 243))),(3,1,(.const (.int .i64 7887))),(4,1,(.const (.int .i64 245))),(5,1,(.const (.int .i64 7885)))],none⟩,⟨some 14,.build [(.int .i64 0),(.int .i64 0),(.slice none 0 0)] [(0,1,(.const (.int .i64 111))),(1,1,(.const (.int .i64 0))),(2,1,(.tmp 13))],none⟩,⟨some 15,.bslice 3 6 1 [(.int .i64 0)] [(0,1,(.const (.int .i64 244))),(1,1,(.const (.int .i64 7891))),(2,1,(.const (.int .i64 7889))),(3,1,(.const (.int .i64 7893))),(4,1,(.const (.int .i64 7895))),(5,1,(.const (.int .i64 7897)))],none⟩,⟨some 16,.build [(.int .i64 0),(.int .i64 0),(.slice none 0 0)] [(0,1,(.const (.int .i64 111))),(1,1,(.const (.int .i64 2))),(2,1,(.tmp 15))],none⟩,⟨some 17,.bslice 3 6 1 [(.int .i64 0)] [(0,1,(.const (.int .i64 417))),(1,1,(.const (.int .i64 7901))),(2,1,(.const (.int .i64 7899))),(3,1,(.const (.int .i64 7903))),(4,1,(.const (.int .i64 7905))),(5,1,(.const (.int .i64 7907)))],none⟩,⟨some 18,.build [(.int .i64 0),(.int .i64 0),(.slice none 0 0)] [(0,1,(.const (.int .i64 111))),(1,1,(.const (.int .i64 3))),(2,1,(.tmp 17))],none⟩,⟨some 19,.bslice 3 6 1 [(.int .i64 0)] [(0,1,(.const (.int .i64 117))),(1,1,(.const (.int .i64 249))),(2,1,(.const (.int .i64 250))),(3,1,(.const (.int .i64 7911))),(4,1,(.const (.int .i64 361))),(5,1,(.const (.int .i64 7909)))],none⟩,⟨some 20,.build [(.int .i64 0),(.int .i64 0),(.slice none 0 0)] [(0,1,(.const (.int .i64 117))),(1,1,(.const (.int .i64 0))),(2,1,(.tmp 19))],none⟩,⟨some 21,.bslice 3 6 1 [(.int .i64 0)] [(0,1,(.const (.int .i64 432))),(1,1,(.const (.int .i64 7915))),(2,1,(.const (.int .i64 7913))),(3,1,(.const (.int .i64 7917))),(4,1,(.const (.int .i64 7919))),(5,1,(.const (.int .i64 7921)))],none⟩,⟨some 22,.build [(.int .i64 0),(.int .i64 0),(.slice none 0 0)] [(0,1,(.const (.int .i64 117))),(1,1,(.const (.int .i64 3))),(2,1,(.tmp 21))],none⟩,⟨some 23,.bslice 3 6 1 [(.int .i64 0)] [(0,1,(.const (.int .i64 121))),(1,1,(.const (.int .i64 7923))),(2,1,(.const (.int .i64 253))),(3,1,(.const (.int .i64 7927))),(4,1,(.const (.int .i64 7929))),(5,1,(.const (.int .i64 7925)))],none⟩,⟨some 24,.build [(.int .i64 0),(.int .i64 0),(.slice none 0 0)] [(0,1,(.const (.int .i64 121))),(1,1,(.const (.int .i64 0))),(2,1,(.tmp 23))],none⟩,⟨some 25,.bslice 3 1 1 [(.int .i64 0)] [(0,1,(.const (.int .i64 100)))],none⟩,⟨some 26,.build [(.int .i64 0),(.int .i64 0),(.slice none 0 0)] [(0,1,(.const (.int .i64 100))),(1,1,(.const (.int .i64 0))),(2,1,(.tmp 25))],none⟩,⟨some 27,.bslice 3 1 1 [(.int .i64 0)] [(0,1,(.const (.int .i64 273)))],none⟩,⟨some 28,.build [(.int .i64 0),(.int .i64 0),(.slice none 0 0)] [(0,1,(.const (.int .i64 100))),(1,1,(.const (.int .i64 4))),(2,1,(.tmp 27))],none⟩,⟨some 29,.bslice 201 14 3 [(.int .i64 0),(.int .i64 0),(.slice none 0 0)] [(0,3,(.tmp 2)),(3,3,(.tmp 4)),(6,3,(.tmp 6)),(9,3,(.tmp 8)),(12,3,(.tmp 10)),(15,3,(.tmp 12)),(18,3,(.tmp 14)),(21,3,(.tmp 16)),(24,3,(.tmp 18)),(27,3,(.tmp 20)),(30,3,(.tmp 22)),(33,3,(.tmp 24)),(36,3,(.tmp 26)),(39,3,(.tmp 28))],none⟩,⟨some 0,.mv (.tmp 29),none⟩]) .ret))
def F_lontarlaw09_Rows:AFunc:=⟨0,30,[.tmp 0],k_lontarlaw09_Rows⟩
theorem ok_lontarlaw09_Rows:FOK Tryz.prog 104 F_lontarlaw09_Rows:=FOK.of [] Tryz.func104 (by kernel_rfl) (by kernel_rfl)
def k_lontarlaw09_upper:ACode:=(.seq (.ops [⟨some 2,.mv (.const (.int .i64 0)),none⟩]) (.seq (.seq (.ops [⟨some 3,.mv (.tmp 0),none⟩,⟨some 4,.int .lss (.tmp 3) (.const (.int .i64 256)),none⟩]) (.cond (.tmp 4) (.seq (.ops [⟨some 5,.mv (.tmp 0),none⟩,⟨some 6,.int .sub (.tmp 5) (.const (.int .i64 32)),none⟩,⟨some 2,.mv (.tmp 6),none⟩]) .ret) .skip)) (.seq (.ops [⟨some 7,.mv (.tmp 0),none⟩,⟨some 8,.int .sub (.tmp 7) (.const (.int .i64 1)),none⟩,⟨some 2,.mv (.tmp 8),none⟩]) .ret)))
def F_lontarlaw09_upper:AFunc:=⟨1,9,[.tmp 2],k_lontarlaw09_upper⟩
theorem ok_lontarlaw09_upper:FOK Tryz.prog 105 F_lontarlaw09_upper:=FOK.of [] Tryz.func105 (by kernel_rfl) (by kernel_rfl)
end Go.Proofs.YtleiinhaljdcoaaGreatDoor
namespace Lon
open Go
section
variable {P:Program} {Γ:FuncId→Option AFunc} {Ω:CallF} {cf:CallF} {e:Env} {H:AHeap}
theorem run_none {c:ACode}:run P Γ Ω c e H=none↔∀ n,execA P (cw P Γ Ω) n c e H=none:=by
 constructor
 ·intro h n
  cases hx:execA P (cw P Γ Ω) n c e H with
  | none=>rfl
  | some r=>rw[run_of n hx] at h;cases h
 ·intro h
  cases hx:run P Γ Ω c e H with
  | none=>rfl
  | some r=>obtain ⟨n,hn⟩:=run_iff.1 hx;rw[h n] at hn;cases hn
theorem eq_skip:run P Γ Ω .skip e H=some (.normal,e,H):=run_skip
theorem eq_exit {id:Nat}:run P Γ Ω (.exit id) e H=some (.exit id,e,H):=run_exit
theorem eq_ret:run P Γ Ω .ret e H=some (.ret,e,H):=run_ret
theorem eq_ops {rows:List ARow}:run P Γ Ω (.ops rows) e H=(rowsA P (cw P Γ Ω) rows e H).map fun x=>(.normal,x.1,x.2):=by
 cases h:rowsA P (cw P Γ Ω) rows e H with
 | none=>exact run_none.2 fun n=>by simp only[execA,h];rfl
 | some x=>exact run_ops h
theorem eq_draw {rows:List ARow}:run P Γ Ω (.draw rows) e H=(drawA P (cw P Γ Ω) rows [] [] e H).map fun x=>(.normal,x.1,x.2):=by
 cases h:drawA P (cw P Γ Ω) rows [] [] e H with
 | none=>exact run_none.2 fun n=>by simp only[execA,h];rfl
 | some x=>exact run_draw h
def andThen (r:Option (AEx × Env × AHeap)) (k:Env→AHeap→Option (AEx × Env × AHeap)):Option (AEx × Env × AHeap):=
 match r with
 | some (.normal,e,H)=>k e H
 | r=>r
theorem then_normal {k:Env→AHeap→Option (AEx × Env × AHeap)}:andThen (some (.normal,e,H)) k=k e H:=rfl
theorem eq_seq {a b:ACode}:run P Γ Ω (.seq a b) e H=andThen (run P Γ Ω a e H) fun e' H'=>run P Γ Ω b e' H':=by
 cases h:run P Γ Ω a e H with
 | none=>exact run_none.2 fun n=>by simp only[execA,run_none.1 h n]
 | some r=>
  obtain ⟨x,e',H'⟩:=r
  cases x with
  | normal=>
   rw[then_normal]
   cases k:run P Γ Ω b e' H' with
   | some r=>exact run_seq h k
   | none=>
    refine run_none.2 fun n=>?_
    simp only[execA]
    cases hx:execA P (cw P Γ Ω) n a e H with
    | none=>rfl
    | some r=>
     have:=run_of n hx
     rw[h] at this
     injection this with this
     subst this
     exact run_none.1 k n
  | ret=>exact run_seq_ret h
  | exit id=>exact run_seq_exit h
def byBool {α:Type} (v:Value) (a b:Option α):Option α:=
 match v with
 | .bool true=>a
 | .bool false=>b
 | _=>none
theorem eq_cond {q:Operand} {a b:ACode}:run P Γ Ω (.cond q a b) e H=byBool (ev e q) (run P Γ Ω a e H) (run P Γ Ω b e H):=by
 have hex:∀ n,execA P (cw P Γ Ω) n (.cond q a b) e H=byBool (ev e q) (execA P (cw P Γ Ω) n a e H) (execA P (cw P Γ Ω) n b e H):=fun n=>by
  simp only[execA]
  unfold byBool
  generalize ev e q=v
  cases v <;> rfl
 unfold byBool
 split
 ·rename_i hq
  cases h:run P Γ Ω a e H with
  | some r=>exact run_true hq h
  | none=>exact run_none.2 fun n=>by rw[hex n,hq];exact run_none.1 h n
 ·rename_i hq
  cases h:run P Γ Ω b e H with
  | some r=>exact run_false hq h
  | none=>exact run_none.2 fun n=>by rw[hex n,hq];exact run_none.1 h n
 ·rename_i h1 h2
  refine run_none.2 fun n=>?_
  rw[hex n]
  unfold byBool
  split
  ·rename_i hq;exact absurd hq h1
  ·rename_i hq;exact absurd hq h2
  ·rfl
def inBlock (id:Nat) (r:Option (AEx × Env × AHeap)):Option (AEx × Env × AHeap):=
 match r with
 | some (.exit id',e,H)=>if id'=id then some (.normal,e,H) else some (.exit id',e,H)
 | r=>r
theorem block_normal {id:Nat}:inBlock id (some (.normal,e,H))=some (.normal,e,H):=rfl
theorem block_ret {id:Nat}:inBlock id (some (.ret,e,H))=some (.ret,e,H):=rfl
theorem block_exit {id id':Nat}:inBlock id (some (.exit id',e,H))=if id'=id then some (.normal,e,H) else some (.exit id',e,H):=rfl
theorem eq_block {id:Nat} {a:ACode}:run P Γ Ω (.block id a) e H=inBlock id (run P Γ Ω a e H):=by
 cases h:run P Γ Ω a e H with
 | none=>exact run_none.2 fun n=>by simp only[execA,run_none.1 h n]
 | some r=>
  obtain ⟨x,e',H'⟩:=r
  obtain ⟨n,hn⟩:=run_iff.1 h
  cases x with
  | normal=>exact run_of n (by simp only[execA];rw[hn])
  | ret=>exact run_of n (by simp only[execA];rw[hn])
  | exit id'=>
   rw[block_exit]
   split
   ·rename_i hid;exact run_of n (by simp only[execA];rw[hn];simp[hid])
   ·rename_i hid;exact run_of n (by simp only[execA];rw[hn];simp[hid])
theorem eq_loop {keep:List Nat} {a:ACode}:run P Γ Ω (.loop keep a) e H=andThen (run P Γ Ω a (forget keep e) H) fun e' H'=>run P Γ Ω (.loop keep a) e' H':=by
 cases h:run P Γ Ω a (forget keep e) H with
 | none=>
  refine run_none.2 fun n=>?_
  simp only[execA]
  cases n with
  | zero=>rfl
  | succ n=>simp only[iterA];rw[run_none.1 h (n+1)]
 | some r=>
  obtain ⟨x,e',H'⟩:=r
  cases x with
  | ret=>exact run_loop_ret h
  | exit id=>exact run_loop_exit h
  | normal=>
   rw[then_normal]
   cases k:run P Γ Ω (.loop keep a) e' H' with
   | some r=>exact run_loop h k
   | none=>
    refine run_none.2 fun n=>?_
    simp only[execA]
    cases n with
    | zero=>rfl
    | succ n=>
     simp only[iterA]
     cases hx:execA P (cw P Γ Ω) (n+1) a (forget keep e) H with
     | none=>rfl
     | some r=>
      have:=run_of (n+1) hx
      rw[h] at this
      injection this with this
      subst this
      simp only
      have hk:=run_none.1 k (n+1)
      simp only[execA] at hk
      cases hy:iterA keep (execA P (cw P Γ Ω) (n+1) a) n e' H' with
      | none=>rfl
      | some r=>rw[iterA_le (fun _ _ _ h=>h) (Nat.le_succ n) hy] at hk;cases hk
noncomputable def thenRun (P:Program) (Γ:FuncId→Option AFunc) (Ω:CallF) (b:ACode) (r:Option (AEx × Env × AHeap)):Option (AEx × Env × AHeap):=andThen r fun e' H'=>run P Γ Ω b e' H'
theorem w_seq {a b:ACode}:run P Γ Ω (.seq a b) e H=thenRun P Γ Ω b (run P Γ Ω a e H):=eq_seq
theorem w_normal {b:ACode}:thenRun P Γ Ω b (some (.normal,e,H))=run P Γ Ω b e H:=rfl
theorem w_ret {b:ACode}:thenRun P Γ Ω b (some (.ret,e,H))=some (.ret,e,H):=rfl
theorem w_exit {b:ACode} {id:Nat}:thenRun P Γ Ω b (some (.exit id,e,H))=some (.exit id,e,H):=rfl
noncomputable def fork (P:Program) (Γ:FuncId→Option AFunc) (Ω:CallF) (a b:ACode) (e:Env) (H:AHeap) (v:Value):Option (AEx × Env × AHeap):=byBool v (run P Γ Ω a e H) (run P Γ Ω b e H)
theorem w_cond {q:Operand} {a b:ACode}:run P Γ Ω (.cond q a b) e H=fork P Γ Ω a b e H (ev e q):=eq_cond
theorem w_true {a b:ACode}:fork P Γ Ω a b e H (.bool true)=run P Γ Ω a e H:=rfl
theorem w_false {a b:ACode}:fork P Γ Ω a b e H (.bool false)=run P Γ Ω b e H:=rfl
noncomputable def onward (P:Program) (cf:CallF) (rs:List ARow) (e:Env) (d:Option Nat) (r:Option (Value × AHeap)):Option (Env × AHeap):=r.bind fun x=>rowsA P cf rs (eput e d x.1) x.2
theorem w_rows {rows:List ARow}:run P Γ Ω (.ops rows) e H=(rowsA P (cw P Γ Ω) rows e H).map fun x=>(.normal,x.1,x.2):=eq_ops
theorem w_done:Option.map (fun x:Env × AHeap=>((AEx.normal,x.1,x.2):AEx × Env × AHeap)) (some (e,H))=some (.normal,e,H):=rfl
theorem rows_nil:rowsA P cf [] e H=some (e,H):=rfl
theorem rows_cons {r:ARow} {rs:List ARow}:rowsA P cf (r :: rs) e H=onward P cf rs e r.dst (rowV P cf r e H):=by
 unfold onward
 simp only[rowsA,rowA]
 cases rowV P cf r e H <;> rfl
theorem on_some {rs:List ARow} {d:Nat} {v:Value} {H':AHeap}:onward P cf rs e (some d) (some (v,H'))=rowsA P cf rs ((d,v) :: e) H':=rfl
theorem on_none {rs:List ARow} {v:Value} {H':AHeap}:onward P cf rs e none (some (v,H'))=rowsA P cf rs e H':=rfl
theorem row_plain {d:Option Nat} {o:AOp}:rowV P cf ⟨d,o,none⟩ e H=stepA P cf e H o:=rfl
noncomputable def guarded (P:Program) (cf:CallF) (e:Env) (H:AHeap) (o:AOp) (want:Bool) (v:Value):Option (Value × AHeap):=
 match v with
 | .bool b=>if b=want then stepA P cf e H o else some (.tuple ⟨[]⟩,H)
 | .tuple ⟨[]⟩=>some (.tuple ⟨[]⟩,H)
 | _=>none
theorem row_guard {d:Option Nat} {o:AOp} {t:Nat} {want:Bool}:rowV P cf ⟨d,o,some (t,want)⟩ e H=guarded P cf e H o want (eget e t):=by
 unfold guarded
 simp only[rowV,guardA]
 split <;> rename_i h
 ·split at h
  ·rename_i b hb
   injection h with h
   simp only[hb]
   rw[if_pos (by simpa using h)]
  ·cases h
  ·cases h
 ·split at h
  ·rename_i b hb
   injection h with h
   simp only[hb]
   rw[if_neg (by intro hh;subst hh;simp at h)]
  ·rename_i hb
   simp only[hb]
  ·cases h
 ·split at h
  ·cases h
  ·cases h
  ·rename_i h1 h2
   split
   ·rename_i b hb;exact absurd hb (h1 b)
   ·rename_i hb;exact absurd hb h2
   ·rfl
theorem guard_tt {o:AOp}:guarded P cf e H o true (.bool true)=stepA P cf e H o:=rfl
theorem guard_ff {o:AOp}:guarded P cf e H o false (.bool false)=stepA P cf e H o:=rfl
theorem guard_tf {o:AOp}:guarded P cf e H o true (.bool false)=some (.tuple ⟨[]⟩,H):=rfl
theorem guard_ft {o:AOp}:guarded P cf e H o false (.bool true)=some (.tuple ⟨[]⟩,H):=rfl
theorem guard_no {o:AOp} {b:Bool}:guarded P cf e H o b (.tuple ⟨[]⟩)=some (.tuple ⟨[]⟩,H):=rfl
theorem draw_cons {r:ARow} {rs:List ARow} {l:List (Nat × Nat)} {F:List Nat}:drawA P cf (r :: rs) l F e H=(rowV P cf r (forget (slotsR r) e) H).bind fun x=>if ((!isCall r.op||calm x.2 F)&&(!lastSt r rs||still H l))=true then drawA P cf rs (nextL (lastSt r rs) (stamps H (forget (slotsR r) e) r++l)) (freshI r.op H.n++F) (eput e r.dst x.1) x.2 else none:=by
 simp only[drawA]
 cases rowV P cf r (forget (slotsR r) e) H <;> rfl
theorem forget_nil:forget [] e=[]:=rfl
theorem forget_cons {t:Nat} {ts:List Nat}:forget (t :: ts) e=(t,eget e t) :: forget ts e:=rfl
theorem ev_tmp {t:Nat}:ev e (.tmp t)=eget e t:=rfl
theorem ev_int {k:IntKind} {n:Int}:ev e (.const (.int k n))=.int k n:=rfl
theorem ev_bool {b:Bool}:ev e (.const (.bool b))=.bool b:=rfl
theorem ev_string {b:ByteArray}:ev e (.const (.string b))=.string b:=rfl
theorem ev_slice:ev e (.const (.slice none 0 0))=.slice none 0 0:=rfl
theorem ev_pointer:ev e (.const (.pointer none))=.pointer none:=rfl
theorem ev_map:ev e (.const (.map none))=.map none:=rfl
theorem ev_float {k:FloatKind} {n:Nat}:ev e (.const (.float k n))=.float k n:=rfl
theorem ev_complex {k:FloatKind} {a b:Nat}:ev e (.const (.complex k a b))=.complex k a b:=rfl
theorem ev_nilIface:ev e (.const .nilIface)=.nilIface:=rfl
theorem ev_nilFunc:ev e (.const .nilFunc)=.nilFunc:=rfl
theorem ev_func {f:FuncId}:ev e (.func f)=.func (.func f) ⟨[]⟩ ⟨[]⟩:=rfl
theorem st_mv {x:Operand}:stepA P cf e H (.mv x)=some (ev e x,H):=rfl
def vPick (c a b:Value) (H:AHeap):Option (Value × AHeap):=match c with | .bool t=>some (if t then a else b,H) | _=>none
theorem st_pick {c a b:Operand}:stepA P cf e H (.pick c a b)=vPick (ev e c) (ev e a) (ev e b) H:=by
 simp only[stepA,pureA,vPick];cases ev e c <;> rfl
theorem v_pick_t {a b:Value}:vPick (.bool true) a b H=some (a,H):=rfl
theorem v_pick_f {a b:Value}:vPick (.bool false) a b H=some (b,H):=rfl
def vExt (t:Value) (ix:Nat) (H:AHeap):Option (Value × AHeap):=match t with | .tuple vs=>(vs.toList[ix]?).map fun v=>(v,H) | _=>none
theorem st_ext {t:Operand} {ix:Nat}:stepA P cf e H (.ext t ix)=vExt (ev e t) ix H:=by
 simp only[stepA,pureA,vExt];cases ev e t <;> rfl
theorem v_ext0 {a:Value} {r:List Value}:vExt (.tuple ⟨a :: r⟩) 0 H=some (a,H):=rfl
theorem v_ext1 {a b:Value} {r:List Value}:vExt (.tuple ⟨a :: b :: r⟩) 1 H=some (b,H):=rfl
theorem v_ext2 {a b c:Value} {r:List Value}:vExt (.tuple ⟨a :: b :: c :: r⟩) 2 H=some (c,H):=rfl
theorem v_ext3 {a b c d:Value} {r:List Value}:vExt (.tuple ⟨a :: b :: c :: d :: r⟩) 3 H=some (d,H):=rfl
def vInt (op:BinOp) (x y:Value) (H:AHeap):Option (Value × AHeap):=match x,y with | .int k a,.int k' b=>if k=k' then (intOp op k a b).map fun v=>(v,H) else none | _,_=>none
theorem st_int {op:BinOp} {x y:Operand}:stepA P cf e H (.int op x y)=vInt op (ev e x) (ev e y) H:=by
 simp only[stepA,pureA,vInt];generalize ev e x=u;generalize ev e y=v
 cases u <;> cases v <;> first | rfl | (simp only;split <;> rfl)
theorem v_int {op:BinOp} {k:IntKind} {a b:Int}:vInt op (.int k a) (.int k b) H=(intOp op k a b).map fun v=>(v,H):=by simp[vInt]
def vBeq (neq:Bool) (x y:Value) (H:AHeap):Option (Value × AHeap):=match x,y with | .bool a,.bool b=>some (.bool (if neq then !(a == b) else a == b),H) | _,_=>none
theorem st_beq {neq:Bool} {x y:Operand}:stepA P cf e H (.beq neq x y)=vBeq neq (ev e x) (ev e y) H:=by
 simp only[stepA,pureA,vBeq];generalize ev e x=u;generalize ev e y=v
 cases u <;> cases v <;> rfl
theorem v_beq {a b:Bool}:vBeq false (.bool a) (.bool b) H=some (.bool (a == b),H):=rfl
theorem v_bne {a b:Bool}:vBeq true (.bool a) (.bool b) H=some (.bool (!(a == b)),H):=rfl
def vNot (x:Value) (H:AHeap):Option (Value × AHeap):=match x with | .bool a=>some (.bool !a,H) | _=>none
theorem st_not {x:Operand}:stepA P cf e H (.not x)=vNot (ev e x) H:=by
 simp only[stepA,pureA,vNot];cases ev e x <;> rfl
theorem v_not {a:Bool}:vNot (.bool a) H=some (.bool !a,H):=rfl
def vConv (k:IntKind) (x:Value) (H:AHeap):Option (Value × AHeap):=match x with | .int _ n=>some (.int k (k.wrap n),H) | _=>none
theorem st_conv {k:IntKind} {x:Operand}:stepA P cf e H (.conv k x)=vConv k (ev e x) H:=by
 simp only[stepA,pureA,vConv];cases ev e x <;> rfl
theorem v_conv {k k':IntKind} {n:Int}:vConv k (.int k' n) H=some (.int k (k.wrap n),H):=rfl
def vFaddr (x:Value) (off:Nat) (H:AHeap):Option (Value × AHeap):=(match x with | .pointer (some ⟨i,o,none⟩)=>some (.pointer (some ⟨i,o+off,none⟩)) | _=>none:Option Value).map fun v=>(v,H)
theorem st_faddr {x:Operand} {off:Nat}:stepA P cf e H (.faddr x off)=vFaddr (ev e x) off H:=rfl
theorem v_faddr {i o off:Nat}:vFaddr (.pointer (some ⟨i,o,none⟩)) off H=some (.pointer (some ⟨i,o+off,none⟩),H):=rfl
def vIaddr (x i:Value) (sz:Nat) (H:AHeap):Option (Value × AHeap):=(match x,i with | .slice (some ⟨b,o,none⟩) n _,.int _ j=>if 0≤j∧j<n then some (.pointer (some ⟨b,o+j.toNat*sz,none⟩)) else none | _,_=>none:Option Value).map fun v=>(v,H)
theorem st_iaddr {x i:Operand} {sz:Nat}:stepA P cf e H (.iaddr x i sz)=vIaddr (ev e x) (ev e i) sz H:=rfl
theorem v_iaddr {b o n c sz:Nat} {k:IntKind} {j:Int} (h:0≤j∧j<n):vIaddr (.slice (some ⟨b,o,none⟩) n c) (.int k j) sz H=some (.pointer (some ⟨b,o+j.toNat*sz,none⟩),H):=by simp[vIaddr,h]
def vAaddr (x i:Value) (cnt sz:Nat) (H:AHeap):Option (Value × AHeap):=(match x,i with | .pointer (some ⟨b,o,none⟩),.int _ j=>if 0≤j∧j<cnt then some (.pointer (some ⟨b,o+j.toNat*sz,none⟩)) else none | _,_=>none:Option Value).map fun v=>(v,H)
theorem st_aaddr {x i:Operand} {cnt sz:Nat}:stepA P cf e H (.aaddr x i cnt sz)=vAaddr (ev e x) (ev e i) cnt sz H:=rfl
theorem v_aaddr {b o cnt sz:Nat} {k:IntKind} {j:Int} (h:0≤j∧j<cnt):vAaddr (.pointer (some ⟨b,o,none⟩)) (.int k j) cnt sz H=some (.pointer (some ⟨b,o+j.toNat*sz,none⟩),H):=by simp[vAaddr,h]
def vNil (x:Value) (H:AHeap):Option (Value × AHeap):=(match x with | .pointer (some ⟨i,o,none⟩)=>some (.pointer (some ⟨i,o,none⟩)) | _=>none:Option Value).map fun v=>(v,H)
theorem st_nilChk {x:Operand}:stepA P cf e H (.nilChk x)=vNil (ev e x) H:=rfl
theorem v_nil {i o:Nat}:vNil (.pointer (some ⟨i,o,none⟩)) H=some (.pointer (some ⟨i,o,none⟩),H):=rfl
def vLen (str:Bool) (x:Value) (H:AHeap):Option (Value × AHeap):=match str,x with | false,.slice _ n _=>some (.int .i64 n,H) | true,.string s=>some (.int .i64 s.size,H) | _,_=>none
theorem st_len {str:Bool} {x:Operand}:stepA P cf e H (.len str x)=vLen str (ev e x) H:=by
 simp only[stepA,pureA,vLen];cases str <;> cases ev e x <;> rfl
theorem v_len {a:Option Addr} {n c:Nat}:vLen false (.slice a n c) H=some (.int .i64 n,H):=rfl
theorem v_lenS {b:ByteArray}:vLen true (.string b) H=some (.int .i64 b.size,H):=rfl
noncomputable def vLoad (x:Value) (k:Option Nat) (H:AHeap):Option (Value × AHeap):=(match x with
 | .pointer (some ⟨i,o,none⟩)=>match H.get i with
  | some blk=>if blk.st.mem then (match k with
   | some n=>if o+n≤blk.cells.length then some (.agg ⟨(blk.cells.drop o).take n⟩) else none
   | none=>blk.cells[o]?) else none
  | none=>none
 | _=>none:Option Value).map fun v=>(v,H)
theorem st_load {x:Operand} {k:Option Nat}:stepA P cf e H (.load x k)=vLoad (ev e x) k H:=rfl
def gotLoad (b:Option ABlk) (o:Nat) (k:Option Nat) (H:AHeap):Option (Value × AHeap):=(match b with
  | some blk=>if blk.st.mem then (match k with
   | some n=>if o+n≤blk.cells.length then some (.agg ⟨(blk.cells.drop o).take n⟩) else none
   | none=>blk.cells[o]?) else none
  | none=>none:Option Value).map fun v=>(v,H)
theorem v_load {i o:Nat} {k:Option Nat}:vLoad (.pointer (some ⟨i,o,none⟩)) k H=gotLoad (H.get i) o k H:=rfl
theorem got_one {cells:List Value} {el:TypeId} {st:St} {ver:Nat} {anc:List Nat} {o:Nat} (h:st.mem=true):gotLoad (some ⟨cells,el,st,ver,anc⟩) o none H=(cells[o]?).map fun v=>(v,H):=by simp[gotLoad,h]
theorem got_row {cells:List Value} {el:TypeId} {st:St} {ver:Nat} {anc:List Nat} {o n:Nat} (h:st.mem=true) (hn:o+n≤cells.length):gotLoad (some ⟨cells,el,st,ver,anc⟩) o (some n) H=some (.agg ⟨(cells.drop o).take n⟩,H):=by simp[gotLoad,h,hn]
theorem mem_tip:St.mem .tip=true:=by decide
theorem mem_ro:St.mem .ro=true:=by decide
theorem mem_ret:St.mem .ret=true:=by decide
theorem st_inv {r:Operand} {name:String} {args:List Operand}:stepA P cf e H (.mop (.inv r name args))=invA P cf (ev e r) name (args.map (ev e)) H:=rfl
noncomputable def vText (v:Value) (H:AHeap):Option (Value × AHeap):=match cellsOf H 1 v with
 | some cs=>(txtB ByteArray.empty cs).map fun s=>(Value.string s,H)
 | none=>none
theorem st_b2s {x:Operand}:stepA P cf e H (.mop (.b2s x))=vText (ev e x) H:=rfl
theorem st_fix {x:Operand}:stepA P cf e H (.mop (.fix x))=fixA (ev e x) H:=rfl
theorem st_alloc {cells:List Value} {el:TypeId}:stepA P cf e H (.alloc cells el)=some (.pointer (some ⟨H.n,0,none⟩),H.push ⟨cells,el,.tip,0,[]⟩):=rfl
noncomputable def vBox (v:Value) (el:TypeId) (H:AHeap):Option (Value × AHeap):=if solid v then some (.pointer (some ⟨H.n,0,none⟩),H.push ⟨v.cells.toList,el,.tip,0,[]⟩) else none
theorem st_box {x:Operand} {el:TypeId}:stepA P cf e H (.box x el)=vBox (ev e x) el H:=by
 simp only[stepA,newA,vBox];split <;> rfl
theorem v_box {v:Value} {el:TypeId} (h:solid v=true):vBox v el H=some (.pointer (some ⟨H.n,0,none⟩),H.push ⟨v.cells.toList,el,.tip,0,[]⟩):=by simp[vBox,h]
noncomputable def vStore (p v:Value) (n:Nat) (H:AHeap):Option (Value × AHeap):=(storeA H p v n).map fun H'=>(.tuple ⟨[]⟩,H')
theorem st_store {x v:Operand} {n:Nat}:stepA P cf e H (.store x v n)=vStore (ev e x) (ev e v) n H:=rfl
noncomputable def gotStore (b:Option ABlk) (i o:Nat) (v:Value) (n:Nat) (H:AHeap):Option (Value × AHeap):=(match b with
  | some blk=>if blk.st=.tip∧v.cells.toList.length=n∧v.cells.toList.all one=true∧o+n≤blk.cells.length then
    some ((killAll H blk.anc).upd i ⟨blk.cells.take o++v.cells.toList++blk.cells.drop (o+n),blk.elem,.tip,blk.ver+1,[]⟩) else none
  | none=>none:Option AHeap).map fun H'=>(.tuple ⟨[]⟩,H')
theorem v_store {i o n:Nat} {v:Value}:vStore (.pointer (some ⟨i,o,none⟩)) v n H=gotStore (H.get i) i o v n H:=rfl
theorem got_store {cells:List Value} {el:TypeId} {ver:Nat} {anc:List Nat} {i o n:Nat} {v:Value} (hl:v.cells.toList.length=n) (h1:v.cells.toList.all one=true) (hn:o+n≤cells.length) :
  gotStore (some ⟨cells,el,.tip,ver,anc⟩) i o v n H=some (.tuple ⟨[]⟩,(killAll H anc).upd i ⟨cells.take o++v.cells.toList++cells.drop (o+n),el,.tip,ver+1,[]⟩):=by
 simp only[gotStore]
 rw[if_pos ⟨trivial,hl,h1,hn⟩];rfl
theorem cells_agg {l:List Value}:(Value.agg ⟨l⟩).cells.toList=l:=rfl
theorem cells_int {k:IntKind} {n:Int}:(Value.int k n).cells.toList=[.int k n]:=rfl
theorem cells_bool {b:Bool}:(Value.bool b).cells.toList=[.bool b]:=rfl
theorem cells_slice {a:Option Addr} {n c:Nat}:(Value.slice a n c).cells.toList=[.slice a n c]:=rfl
theorem cells_pointer {a:Option Addr}:(Value.pointer a).cells.toList=[.pointer a]:=rfl
theorem cells_string {b:ByteArray}:(Value.string b).cells.toList=[.string b]:=rfl
theorem cells_complex {k:FloatKind} {a b:Nat}:(Value.complex k a b).cells.toList=[.complex k a b]:=rfl
theorem cells_func {f:Fn} {a b:Array Value}:(Value.func f a b).cells.toList=[.func f a b]:=rfl
theorem one_int {k:IntKind} {n:Int}:one (.int k n)=true:=of_eq_true (eq_self true)
theorem one_bool {b:Bool}:one (.bool b)=true:=of_eq_true (eq_self true)
theorem one_slice {a:Option Addr} {n c:Nat}:one (.slice a n c)=true:=of_eq_true (eq_self true)
theorem one_pointer {a:Option Addr}:one (.pointer a)=true:=of_eq_true (eq_self true)
theorem one_string {b:ByteArray}:one (.string b)=true:=of_eq_true (eq_self true)
theorem one_complex {k:FloatKind} {a b:Nat}:one (.complex k a b)=true:=of_eq_true (eq_self true)
theorem one_func {f:Fn} {a b:Array Value}:one (.func f a b)=true:=of_eq_true (eq_self true)
theorem Tr.put_put:∀ (f:Nat) (t:Tr) (i:Nat) (b b':ABlk),Tr.put f (Tr.put f t i b) i b'=Tr.put f t i b':=by
 intro f
 induction f with
 | zero=>intro t i b b';cases t <;> rfl
 | succ f ih=>
  intro t i b b'
  cases t with
  | e=>
   simp only[Tr.put_se]
   by_cases h:i=0
   ·simp only[h,if_true,Tr.put_sn]
   ·simp only[h,if_false]
    by_cases ho:i % 2=1
    ·simp only[ho,if_true,Tr.put_sn,h,if_false,ih]
    ·simp only[ho,if_false,Tr.put_sn,h,ih]
  | n v l r=>
   simp only[Tr.put_sn]
   by_cases h:i=0
   ·simp only[h,if_true,Tr.put_sn]
   ·simp only[h,if_false]
    by_cases ho:i % 2=1
    ·simp only[ho,if_true,Tr.put_sn,h,if_false,ih]
    ·simp only[ho,if_false,Tr.put_sn,h,ih]
theorem upd_push {b b':ABlk}:(H.push b).upd H.n b'=H.push b':=by
 rw[AHeap.upd_eq,AHeap.push_eq,AHeap.push_eq]
 simp only[Tr.put_put]
theorem get_push_self {b:ABlk}:(H.push b).get H.n=some b:=by rw[AHeap.get_push,if_pos rfl]
theorem get_push_lt {b:ABlk} {i:Nat} (h:i<H.n):(H.push b).get i=H.get i:=by rw[AHeap.get_push,if_neg (by omega)]
def vCall (cf:CallF) (f:Value) (args:List Value) (H:AHeap):Option (Value × AHeap):=match f with | .func (.func g) first captured=>cf g (first.toList++args++captured.toList) H | _=>none
theorem st_call {f:Operand} {args:List Operand}:stepA P cf e H (.call f args)=vCall cf (ev e f) (args.map (ev e)) H:=by
 simp only[stepA,vCall];cases ev e f <;> rfl
def vBuild (z:List Value) (ps:List (Nat × Nat × Value)) (H:AHeap):Option (Value × AHeap):=(if okParts z.length ps then some (.agg ⟨lay z (dropSz ps)⟩) else none:Option Value).map fun v=>(v,H)
theorem st_build {z:List Value} {ps:List (Nat × Nat × Operand)}:stepA P cf e H (.build z ps)=vBuild z (evParts e ps) H:=rfl
theorem parts_nil:evParts e []=[]:=rfl
theorem parts_cons {a b:Nat} {x:Operand} {r:List (Nat × Nat × Operand)}:evParts e ((a,b,x) :: r)=(a,b,ev e x) :: evParts e r:=rfl
noncomputable def vBslice (el:TypeId) (n sz:Nat) (z:List Value) (ps:List (Nat × Nat × Value)) (H:AHeap):Option (Value × AHeap):=
 (if okParts (n*sz) ps then some (⟨lay ((List.replicate n z).flatten) (dropSz ps),el,.tip,0,[]⟩,.slice (some ⟨H.n,0,none⟩) n (n+1)) else none:Option (ABlk × Value)).map fun r=>(r.2,H.push r.1)
theorem st_bslice {el:TypeId} {n sz:Nat} {z:List Value} {ps:List (Nat × Nat × Operand)}:stepA P cf e H (.bslice el n sz z ps)=vBslice el n sz z (evParts e ps) H:=rfl
theorem st_append {x y:Operand} {el:TypeId} {sz bytes:Nat}:stepA P cf e H (.append x y el sz bytes)=appendA H (ev e x) (ev e y) el sz bytes:=rfl
theorem st_mkfun {fn:Fn} {a b:List Operand}:stepA P cf e H (.mkfun fn a b)=some (.func fn ⟨a.map (ev e)⟩ ⟨b.map (ev e)⟩,H):=rfl
theorem st_mkface {t:TypeId} {x:Operand}:stepA P cf e H (.mkface t x)=some (.iface t (ev e x),H):=rfl
def vIsNil (kd:Nat) (neq:Bool) (x:Value) (H:AHeap):Option (Value × AHeap):=((isNilV kd x).map fun b=>(.bool (if neq then !b else b):Value)).map fun v=>(v,H)
theorem st_isNil {kd:Nat} {neq:Bool} {x:Operand}:stepA P cf e H (.isNil kd neq x)=vIsNil kd neq (ev e x) H:=rfl
def vMax (x y:Value) (H:AHeap):Option (Value × AHeap):=(match x,y with | .int k a,.int _ b=>some (.int k (if b>a then b else a)) | _,_=>none:Option Value).map fun v=>(v,H)
theorem st_max {x y:Operand}:stepA P cf e H (.max2 x y)=vMax (ev e x) (ev e y) H:=rfl
theorem v_max {k k':IntKind} {a b:Int}:vMax (.int k a) (.int k' b) H=some (.int k (if b>a then b else a),H):=rfl
def vMin (x y:Value) (H:AHeap):Option (Value × AHeap):=(match x,y with | .int k a,.int _ b=>some (.int k (if b<a then b else a)) | _,_=>none:Option Value).map fun v=>(v,H)
theorem st_min {x y:Operand}:stepA P cf e H (.min2 x y)=vMin (ev e x) (ev e y) H:=rfl
theorem v_min {k k':IntKind} {a b:Int}:vMin (.int k a) (.int k' b) H=some (.int k (if b<a then b else a),H):=rfl
def vField (x:Value) (agg:Bool) (off len:Nat) (H:AHeap):Option (Value × AHeap):=(match x with
 | .agg cs=>if agg then (if off+len≤cs.toList.length then some (.agg ⟨(cs.toList.drop off).take len⟩) else none) else cs.toList[off]?
 | _=>none:Option Value).map fun v=>(v,H)
theorem st_field {x:Operand} {agg:Bool} {off len:Nat}:stepA P cf e H (.field x agg off len)=vField (ev e x) agg off len H:=rfl
def vIndex (x i:Value) (cnt:Nat) (agg:Bool) (sz:Nat) (H:AHeap):Option (Value × AHeap):=(match x,i with
 | .agg cs,.int _ n=>if 0≤n∧n<cnt then (if agg then (if n.toNat*sz+sz≤cs.toList.length then some (.agg ⟨(cs.toList.drop (n.toNat*sz)).take sz⟩) else none) else cs.toList[n.toNat*sz]?) else none
 | _,_=>none:Option Value).map fun v=>(v,H)
theorem st_index {x i:Operand} {cnt sz:Nat} {agg:Bool}:stepA P cf e H (.index x i cnt agg sz)=vIndex (ev e x) (ev e i) cnt agg sz H:=rfl
def vSlice0 (x:Value) (H:AHeap):Option (Value × AHeap):=(match x with
 | .slice (some ⟨i,o,none⟩) _ _=>some (.slice (some ⟨i,o,none⟩) 0 0)
 | .slice none 0 0=>some (.slice none 0 0)
 | .slice (some ⟨i,o,some k⟩) 0 0=>some (.slice (some ⟨i,o,some k⟩) 0 0)
 | _=>none:Option Value).map fun v=>(v,H)
theorem st_slice0 {x:Operand}:stepA P cf e H (.slice0 x)=vSlice0 (ev e x) H:=rfl
theorem v_slice0 {i o n c:Nat}:vSlice0 (.slice (some ⟨i,o,none⟩) n c) H=some (.slice (some ⟨i,o,none⟩) 0 0,H):=rfl
theorem v_slice0n:vSlice0 (.slice none 0 0) H=some (.slice none 0 0,H):=rfl
def bndV (d:Int) (v:Option Value):Option Int:=match v with | none=>some d | some (.int _ j)=>some j | some _=>none
noncomputable def vSlice (x:Value) (lo hi:Option Value) (sz:Nat) (H:AHeap):Option (Value × AHeap):=(match x with
  | .slice (some ⟨i,o,none⟩) n c=>
   match bndV n hi,bndV 0 lo,(H.get i).map (fun b=>(P.info? b.elem).map (·.size)) with
   | some h,some l,some (some s)=>if 0≤l∧l≤h∧h≤n∧s=sz then some (.slice (some ⟨i,o+l.toNat*sz,none⟩) (h.toNat - l.toNat) (if c=0 then 0 else max (h.toNat - l.toNat) (c - 1 - l.toNat)+1)) else none
   | _,_,_=>none
  | .slice none 0 0=>
   match bndV 0 hi,bndV 0 lo with
   | some h,some l=>if l=0∧h=0 then some (.slice none 0 0) else none
   | _,_=>none
  | .slice (some ⟨i,o,some k⟩) 0 0=>
   match bndV 0 hi,bndV 0 lo with
   | some h,some l=>if l=0∧h=0 then some (.slice (some ⟨i,o,some k⟩) 0 0) else none
   | _,_=>none
  | _=>none:Option Value).map fun v=>(v,H)
theorem bnd_val {d:Int} {x:Option Operand}:bndA e d x=bndV d (x.map (ev e)):=by
 cases x with
 | none=>rfl
 | some x=>simp only[bndA,bndV,Option.map_some];cases ev e x <;> rfl
theorem st_slice {x:Operand} {lo hi:Option Operand} {sz:Nat}:stepA P cf e H (.slice x lo hi sz)=vSlice (P:=P) (ev e x) (lo.map (ev e)) (hi.map (ev e)) sz H:=by
 simp only[stepA,readA,vSlice,bnd_val];rfl
theorem kill_nil:killAll H []=H:=rfl
theorem v_call {g:FuncId} {args:List Value}:vCall cf (.func (.func g) ⟨[]⟩ ⟨[]⟩) args H=cf g args H:=by simp[vCall]
theorem int_add {k:IntKind} {a b:Int}:intOp .add k a b=some (.int k (k.wrap (a+b))):=rfl
theorem int_sub {k:IntKind} {a b:Int}:intOp .sub k a b=some (.int k (k.wrap (a - b))):=rfl
theorem int_mul {k:IntKind} {a b:Int}:intOp .mul k a b=some (.int k (k.wrap (a*b))):=rfl
theorem int_eql {k:IntKind} {a b:Int}:intOp .eql k a b=some (.bool (decide (a=b))):=by
 simp only[intOp]
 by_cases h:a=b <;> simp[h]
theorem int_neq {k:IntKind} {a b:Int}:intOp .neq k a b=some (.bool (decide (a≠b))):=by
 simp only[intOp]
 by_cases h:a=b <;> simp[h,bne]
theorem int_lss {k:IntKind} {a b:Int}:intOp .lss k a b=some (.bool (decide (a<b))):=rfl
theorem int_leq {k:IntKind} {a b:Int}:intOp .leq k a b=some (.bool (decide (a≤b))):=rfl
theorem int_gtr {k:IntKind} {a b:Int}:intOp .gtr k a b=some (.bool (decide (a>b))):=rfl
theorem int_geq {k:IntKind} {a b:Int}:intOp .geq k a b=some (.bool (decide (a≥b))):=rfl
theorem wrap64 {n:Int} (h1:-9223372036854775808≤n) (h2:n<9223372036854775808):IntKind.i64.wrap n=n:=by
 unfold IntKind.wrap
 have hb:(2:Int) ^ IntKind.i64.bits=18446744073709551616:=by decide
 have hb':(2:Int) ^ (IntKind.i64.bits - 1)=9223372036854775808:=by decide
 have hs:IntKind.i64.signed=true:=rfl
 rw[hb,hb',hs]
 simp only[Bool.true_and,decide_eq_true_eq]
 split <;> omega
end
section
variable {P:Program} {Γ:FuncId→Option AFunc} {Ω:CallF} {cf:CallF} {e:Env} {H:AHeap}
theorem eget_forget_mem {ks:List Nat} {t:Nat} (h:t∈ks):eget (forget ks e) t=eget e t:=by rw[eget_forget,if_pos h]
theorem forget_forget {ks:List Nat}:forget ks (forget ks e)=forget ks e:=by
 unfold forget
 refine List.map_congr_left fun t ht=>?_
 have:=eget_forget_mem (e:=e) ht
 unfold forget at this
 rw[this]
theorem w_loop {keep:List Nat} {a:ACode}:run P Γ Ω (.loop keep a) e H=thenRun P Γ Ω (.loop keep a) (run P Γ Ω a (forget keep e) H):=eq_loop
theorem w_loop_b {keep:List Nat} {a a':ACode} (h:a=a'):run P Γ Ω (.loop keep a) e H=thenRun P Γ Ω (.loop keep a) (run P Γ Ω a' (forget keep e) H):=by subst h;exact w_loop
theorem w_enter {keep:List Nat} {a:ACode}:run P Γ Ω (.loop keep a) e H=run P Γ Ω (.loop keep a) (forget keep e) H:=by
 rw[w_loop,w_loop (e:=forget keep e),forget_forget]
noncomputable def fin (P:Program) (rs:List ARes) (r:Option (AEx × Env × AHeap)):Option (Value × AHeap):=
 match r with
 | some (.exit _,_,_)=>none
 | some (_,e,H')=>(ressA P e H' rs).map fun vs=>(packA vs,H')
 | none=>none
theorem fin_ret {rs:List ARes}:fin P rs (some (.ret,e,H))=(ressA P e H rs).map fun vs=>(packA vs,H):=rfl
theorem fin_normal {rs:List ARes}:fin P rs (some (.normal,e,H))=(ressA P e H rs).map fun vs=>(packA vs,H):=rfl
theorem cw_run {g:FuncId} {args:List Value} {F:AFunc} (hΩ:Ω g args H=none) (hF:Γ g=some F) (hl:args.length=F.nargs):cw P Γ Ω g args H=fin P F.results (run P Γ Ω F.code (entry args) H):=by
 cases hx:run P Γ Ω F.code (entry args) H with
 | some r=>
  obtain ⟨x,e',H'⟩:=r
  cases x with
  | exit id=>
   cases hc:cw P Γ Ω g args H with
   | none=>rfl
   | some r=>
    obtain ⟨n,hn⟩:=cw_iff.1 hc
    cases n with
    | zero=>simp[callA] at hn
    | succ n=>
     simp only[callA,hΩ,hF,if_pos hl] at hn
     cases hy:execA P (callA P Γ Ω n) n F.code (entry args) H with
     | none=>rw[hy] at hn;cases hn
     | some y=>
      have:=run_of n (execA_le (cw_le n) (Nat.le_refl n) hy)
      rw[hx] at this
      injection this with this
      subst this
      rw[hy] at hn
      cases hn
  | normal=>
   rw[fin_normal]
   cases hr:ressA P e' H' F.results with
   | some vs=>rw[cw_body hΩ hF hl hx (by intro id h;cases h) hr];rfl
   | none=>
    cases hc:cw P Γ Ω g args H with
    | none=>rfl
    | some r=>
     obtain ⟨n,hn⟩:=cw_iff.1 hc
     cases n with
     | zero=>simp[callA] at hn
     | succ n=>
      simp only[callA,hΩ,hF,if_pos hl] at hn
      cases hy:execA P (callA P Γ Ω n) n F.code (entry args) H with
      | none=>rw[hy] at hn;cases hn
      | some y=>
       have:=run_of n (execA_le (cw_le n) (Nat.le_refl n) hy)
       rw[hx] at this
       injection this with this
       subst this
       rw[hy] at hn
       simp only[hr] at hn
       cases hn
  | ret=>
   rw[fin_ret]
   cases hr:ressA P e' H' F.results with
   | some vs=>rw[cw_body hΩ hF hl hx (by intro id h;cases h) hr];rfl
   | none=>
    cases hc:cw P Γ Ω g args H with
    | none=>rfl
    | some r=>
     obtain ⟨n,hn⟩:=cw_iff.1 hc
     cases n with
     | zero=>simp[callA] at hn
     | succ n=>
      simp only[callA,hΩ,hF,if_pos hl] at hn
      cases hy:execA P (callA P Γ Ω n) n F.code (entry args) H with
      | none=>rw[hy] at hn;cases hn
      | some y=>
       have:=run_of n (execA_le (cw_le n) (Nat.le_refl n) hy)
       rw[hx] at this
       injection this with this
       subst this
       rw[hy] at hn
       simp only[hr] at hn
       cases hn
 | none=>
  cases hc:cw P Γ Ω g args H with
  | none=>rfl
  | some r=>
   obtain ⟨n,hn⟩:=cw_iff.1 hc
   cases n with
   | zero=>simp[callA] at hn
   | succ n=>
    simp only[callA,hΩ,hF,if_pos hl] at hn
    cases hy:execA P (callA P Γ Ω n) n F.code (entry args) H with
    | none=>rw[hy] at hn;cases hn
    | some y=>
     have:=run_of n (execA_le (cw_le n) (Nat.le_refl n) hy)
     rw[hx] at this
     cases this
theorem cw_of {g:FuncId} {args:List Value} {r:Value × AHeap} (n:Nat) (h:callA P Γ Ω n g args H=some r):cw P Γ Ω g args H=some r:=cw_iff.2 ⟨n,h⟩
theorem ress_nil:ressA P e H []=some []:=rfl
theorem ress_tmp {t:Nat} {r:List ARes}:ressA P e H (.tmp t :: r)=(ressA P e H r).map fun vs=>eget e t :: vs:=by
 simp only[ressA,resA];cases ressA P e H r <;> rfl
theorem pack_one {v:Value}:packA [v]=v:=rfl
theorem pack_nil:packA []=.tuple ⟨[]⟩:=rfl
theorem pack_two {v u:Value} {r:List Value}:packA (v :: u :: r)=.tuple ⟨v :: u :: r⟩:=rfl
theorem entry_one {a:Value}:entry [a]=[(0,a)]:=rfl
theorem entry_two {a b:Value}:entry [a,b]=[(0,a),(1,b)]:=rfl
theorem entry_three {a b c:Value}:entry [a,b,c]=[(0,a),(1,b),(2,c)]:=rfl
theorem entry_four {a b c d:Value}:entry [a,b,c,d]=[(0,a),(1,b),(2,c),(3,d)]:=rfl
theorem entry_nil:entry []=[]:=rfl
def Out (r:Option (AEx × Env × AHeap)) (Q:AEx→Env→AHeap→Prop):Prop:=∃ x e H,r=some (x,e,H)∧Q x e H
theorem w_out {x:AEx} {Q:AEx→Env→AHeap→Prop}:Out (some (x,e,H)) Q=Q x e H:=by
 refine propext ⟨fun ⟨x',e',H',h,q⟩=>?_,fun q=>⟨x,e,H,rfl,q⟩⟩
 injection h with h
 injection h with h1 h
 injection h with h2 h3
 subst h1 h2 h3
 exact q
def Gives (r:Option (Value × AHeap)) (Q:Value→AHeap→Prop):Prop:=∃ v H,r=some (v,H)∧Q v H
theorem w_gives {v:Value} {Q:Value→AHeap→Prop}:Gives (some (v,H)) Q=Q v H:=by
 refine propext ⟨fun ⟨v',H',h,q⟩=>?_,fun q=>⟨v,H,rfl,q⟩⟩
 injection h with h
 injection h with h1 h2
 subst h1 h2
 exact q
def Ext (H H':AHeap):Prop:=H.n≤H'.n∧∀ i,i<H.n→H'.get i=H.get i
theorem Ext.refl (H:AHeap):Ext H H:=⟨Nat.le_refl _,fun _ _=>rfl⟩
theorem Ext.trans {a b c:AHeap} (h:Ext a b) (k:Ext b c):Ext a c:=⟨Nat.le_trans h.1 k.1,fun i hi=>(k.2 i (by have:=h.1;omega)).trans (h.2 i hi)⟩
theorem Ext.push (H:AHeap) (b:ABlk):Ext H (H.push b):=⟨by simp,fun i hi=>by rw[AHeap.get_push,if_neg (by omega)]⟩
theorem Ext.get {a b:AHeap} (h:Ext a b) {i:Nat} {x:ABlk} (hx:a.get i=some x):b.get i=some x:=(h.2 i (AHeap.lt_of_get hx)).trans hx
theorem drop_at {α:Type} {L:List α} {i:Nat} (h:i<L.length):∃ p,L[i]?=some p∧L.drop i=p :: L.drop (i+1):=⟨L[i],List.getElem?_eq_getElem h,List.drop_eq_getElem_cons h⟩
theorem row_at {α:Type} {f:α→List Value} {s:Nat} (hs:∀ x,(f x).length=s):∀ {L:List α} {i:Nat} {p:α},L[i]?=some p→((L.flatMap f).drop (i*s)).take s=f p∧i*s+s≤(L.flatMap f).length
 | [],i,p,h=>by simp at h
 | x :: L,0,p,h=>by
  simp at h
  subst h
  simp[hs]
 | x :: L,i+1,p,h=>by
  simp at h
  obtain ⟨h1,h2⟩:=row_at hs h
  rw[Nat.succ_mul,Nat.add_comm (i*s) s]
  simp only[List.flatMap_cons,List.length_append,hs]
  refine ⟨?_,by omega⟩
  rw[List.drop_append,List.drop_of_length_le (by rw[hs];omega),hs]
  simp[h1]
end
end Lon
namespace Lon
open Go Go.RowKit
def flat:Value→Bool
 | .tuple ⟨xs⟩=>xs.all fun x=>match x with
  | .agg ⟨ys⟩=>ys.all atom
  | x=>atom x
 | v=>ground v
section
variable {P:Program} {σ σ':Sig} {base:Nat} {H:AHeap} {w w':World}
theorem VRs.eq_flat:∀ {xs ys:List Value},(xs.all fun x=>match x with | .agg ⟨ys⟩=>ys.all atom | x=>atom x)=true→VRs σ xs ys→ys=xs
 | [],ys,_,h=>by cases h;rfl
 | x :: xs,[],_,h=>by cases h
 | x :: xs,y :: ys,h,rs0=>by
  cases rs0 with | cons _ _ _ _ r rs=>
  simp only[List.all_cons,Bool.and_eq_true] at h
  rw[VRs.eq_flat h.2 rs]
  congr 1
  have h1:=h.1
  split at h1
  ·exact VR.eq_ground (by simpa[ground] using h1) r
  ·exact VR.eq_atom h1 r
theorem VRs.of_flat:∀ {xs:List Value},(xs.all fun x=>match x with | .agg ⟨ys⟩=>ys.all atom | x=>atom x)=true→VRs σ xs xs
 | [],_=>.nil
 | x :: xs,h=>by
  simp only[List.all_cons,Bool.and_eq_true] at h
  refine .cons _ _ _ _ ?_ (VRs.of_flat h.2)
  have h1:=h.1
  split at h1
  ·exact VR.of_ground (by simpa[ground] using h1)
  ·exact VR.of_atom h1
theorem VR.eq_flat {v v':Value} (h:flat v=true) (r:VR σ v v'):v'=v:=by
 unfold flat at h
 split at h
 ·cases r with | tuple _ _ hs=>rw[VRs.eq_flat h hs]
 ·exact VR.eq_ground h r
theorem VR.of_flat {v:Value} (h:flat v=true):VR σ v v:=by
 unfold flat at h
 split at h
 ·exact .tuple _ _ (VRs.of_flat h)
 ·exact VR.of_ground h
theorem VRs.eq_grounds:∀ {xs ys:List Value},xs.all ground=true→VRs σ xs ys→ys=xs
 | [],ys,_,h=>by cases h;rfl
 | x :: xs,[],_,h=>by cases h
 | x :: xs,y :: ys,h,rs0=>by
  cases rs0 with | cons _ _ _ _ r rs=>
  simp only[List.all_cons,Bool.and_eq_true] at h
  rw[VRs.eq_grounds h.2 rs,VR.eq_ground h.1 r]
theorem VRs.of_grounds:∀ {xs:List Value},xs.all ground=true→VRs σ xs xs
 | [],_=>.nil
 | x :: xs,h=>by
  simp only[List.all_cons,Bool.and_eq_true] at h
  exact .cons _ _ _ _ (VR.of_ground h.1) (VRs.of_grounds h.2)
theorem HR.world (h:HR P σ base H w) (hs:w.heap.size≤w'.heap.size) (hk:∀ k,k<w.heap.size→w'.heap[k]?=w.heap[k]?):HR P σ base H w' where
 elem:=h.elem
 out:=h.out
 lt hg hd hl:=Nat.lt_of_lt_of_le (h.lt hg hd hl) hs
 cells hg hm hl k v hv:=by
  obtain ⟨v',h1,h2⟩:=h.cells hg hm hl hv
  refine ⟨v',?_,h2⟩
  have hlt:=h.lt hg (mem_ne_dead hm) hl
  simp only[World.cell?,hk _ hlt] at h1 ⊢
  exact h1
 ro:=h.ro
 own:=h.own
 row hg hm hl:=by
  obtain ⟨cur,e,z,h1,h2⟩:=h.row hg hm hl
  exact ⟨cur,e,z,by rw[hk _ (h.lt hg (own_ne_dead (row_own hm)) hl)];exact h1,h2⟩
 fits:=h.fits
 map hg hm hl:=by
  obtain ⟨es,clock,h1,h2⟩:=h.map hg hm hl
  exact ⟨es,clock,by rw[hk _ (h.lt hg (by rw[hm];intro e;cases e) hl)];exact h1,h2⟩
 sep:=h.sep
 anc:=h.anc
 ends:=h.ends
 ancJ:=h.ancJ
theorem sim_closed {g:FuncId} {args:List Value} {v:Value} {H':AHeap} (h:∀ base,Sim P base g args AHeap.empty v H') (hg:args.all ground=true) (hv:flat v=true) (base:Nat) (H:AHeap):Sim P base g args H v H:=by
 refine ⟨(h 0).1,VerLe.refl _,fun σ w args' hargs hh hb=>?_⟩
 have:=VRs.eq_grounds hg hargs
 subst this
 refine ((h w.heap.size).2.2 sig0 w args' (VRs.of_grounds hg) (HR.empty _ _) (Nat.le_refl _)).mono fun e w' hq=>?_
 obtain ⟨σ',v',rfl,q1,q2,q3⟩:=hq
 have hk:∀ k,k<w.heap.size→w'.heap[k]?=w.heap[k]?:=fun k hk=>q3.keep k hk (fun i blk l hi _ _=>by rw[empty_get] at hi;cases hi)
 refine ⟨σ,v',rfl,?_,hh.world q3.size hk,?_⟩
 ·rw[VR.eq_flat hv q1];exact VR.of_flat hv
 ·exact ⟨Sub.refl _,fun _ _=>rfl,Nat.le_refl _,q3.os,q3.tape,q3.output,q3.size,fun k hk' _=>hk k hk',fun j blk l h1 h2 h3=>.inr ⟨j,blk,l,h1,h2,h3,rfl⟩,fun i b hb=>⟨b,hb,Nat.le_refl _,rfl,fun _=>⟨rfl,id,id⟩⟩⟩
mutual
theorem VR.back (s:Sub σ σ'):∀ {v u u':Value},VR σ v u→VR σ' v u'→VR σ v u'
 | _,_,_,.poison _,_=>.poison _
 | _,_,_,.bool b,h=>by cases h;exact .bool b
 | _,_,_,.int k n,h=>by cases h;exact .int k n
 | _,_,_,.float k n,h=>by cases h;exact .float k n
 | _,_,_,.complex k a b,h=>by cases h;exact .complex k a b
 | _,_,_,.string x,h=>by cases h;exact .string x
 | _,_,_,.nilPtr,h=>by cases h;exact .nilPtr
 | _,_,_,.ptr i o l hl,h=>by
  cases h with | ptr _ _ l' hl'=>
  have:=s _ _ hl
  rw[hl'] at this
  injection this with this
  subst this
  exact .ptr i o _ hl
 | _,_,_,.nilSlice,h=>by cases h;exact .nilSlice
 | _,_,_,.nilAt a,h=>by cases h;exact .nilAt _
 | _,_,_,.slice i o n c f' c' l hl _ _ _ _ _,h=>by
  cases h with | slice _ _ _ _ f2 c2 l' hl' h1 h2 h3 h4 h5=>
  have:=s _ _ hl
  rw[hl'] at this
  injection this with this
  subst this
  exact .slice i o n c f2 c2 _ hl h1 h2 h3 h4 h5
 | _,_,_,.nilMap,h=>by cases h;exact .nilMap
 | _,_,_,.map i l hl,h=>by
  cases h with | map _ l' hl'=>
  have:=s _ _ hl
  rw[hl'] at this
  injection this with this
  subst this
  exact .map i _ hl
 | _,_,_,.func fn xs ys xs' ys' hx hy,h=>by
  cases h with | func _ _ _ _ _ hx' hy'=>
  exact .func _ _ _ _ _ (VRs.back s hx hx') (VRs.back s hy hy')
 | _,_,_,.nilFunc,h=>by cases h;exact .nilFunc
 | _,_,_,.nilIface,h=>by cases h;exact .nilIface
 | _,_,_,.iface t v v' hv,h=>by
  cases h with | iface _ _ _ hv'=>
  exact .iface _ _ _ (VR.back s hv hv')
 | _,_,_,.agg xs xs' hx,h=>by
  cases h with | agg _ _ hx'=>
  exact .agg _ _ (VRs.back s hx hx')
 | _,_,_,.tuple xs xs' hx,h=>by
  cases h with | tuple _ _ hx'=>
  exact .tuple _ _ (VRs.back s hx hx')
theorem VRs.back (s:Sub σ σ'):∀ {v u u':List Value},VRs σ v u→VRs σ' v u'→VRs σ v u'
 | _,_,_,.nil,h=>by cases h;exact .nil
 | _,_,_,.cons v v' vs vs' hv hs,h=>by
  cases h with | cons _ _ _ _ hv' hs'=>
  exact .cons _ _ _ _ (VR.back s hv hv') (VRs.back s hs hs')
end
theorem HR.drop {H':AHeap} (h0:HR P σ base H w) (h:HR P σ' base H' w') (hf:Fr σ σ' H H' w w') (hx:Ext H H'):HR P σ base H w':=by
 have key:∀ {i blk l},H.get i=some blk→σ i=some l→H'.get i=some blk∧σ' i=some l:=fun {i blk l} hg hl=>⟨hx.get hg,by rw[hf.old _ (AHeap.lt_of_get hg)];exact hl⟩
 constructor
 ·intro i blk l hg hl;exact h.elem (key hg hl).1 (key hg hl).2
 ·exact h0.out
 ·intro i blk l hg hd hl;exact h.lt (key hg hl).1 hd (key hg hl).2
 ·intro i blk l hg hm hl k v hv
  obtain ⟨v',h1,h2⟩:=h.cells (key hg hl).1 hm (key hg hl).2 hv
  obtain ⟨v0,_,h4⟩:=h0.cells hg hm hl hv
  exact ⟨v',h1,VR.back hf.sub h4 h2⟩
 ·intro i blk l hg hm hl;exact h.ro (key hg hl).1 hm (key hg hl).2
 ·intro i blk l hg hm hl;exact h.own (key hg hl).1 hm (key hg hl).2
 ·intro i blk l hg hm hl;exact h.row (key hg hl).1 hm (key hg hl).2
 ·intro i blk l hg hm hl;exact h.fits (key hg hl).1 hm (key hg hl).2
 ·intro i blk l hg hm hl
  obtain ⟨es,clock,h1,h2⟩:=h.map (key hg hl).1 hm (key hg hl).2
  obtain ⟨es0,clock0,h3,h4⟩:=h0.map hg hm hl
  exact ⟨es,clock,h1,VRs.back hf.sub h4 h2⟩
 ·intro i j bi bj li lj hij gi gj oi oj ei ej he
  exact h.sep hij (key gi ei).1 (key gj ej).1 oi oj (key gi ei).2 (key gj ej).2 he
 ·intro i j bi bj gi gj oi oj hm;exact h.anc (hx.get gi) (hx.get gj) oi oj hm
 ·intro i j bi bj li lj gi gj oi oj hm ei ej he
  exact h.ends (key gi ei).1 (key gj ej).1 oi oj hm (key gi ei).2 (key gj ej).2 he
 ·exact h0.ancJ
theorem sim_drop {g:FuncId} {args:List Value} {v:Value} {H':AHeap} (h:Sim P base g args H v H') (hx:Ext H H') (hv:flat v=true):Sim P base g args H v H:=by
 refine ⟨h.1,VerLe.refl _,fun σ w args' hargs hh hb=>?_⟩
 refine (h.2.2 σ w args' hargs hh hb).mono fun e w' hq=>?_
 obtain ⟨σ',v',rfl,q1,q2,q3⟩:=hq
 refine ⟨σ,v',rfl,?_,hh.drop q2 q3 hx,?_⟩
 ·rw[VR.eq_flat hv q1];exact VR.of_flat hv
 ·exact ⟨Sub.refl _,fun _ _=>rfl,Nat.le_refl _,q3.os,q3.tape,q3.output,q3.size,q3.keep,fun j blk l h1 h2 h3=>.inr ⟨j,blk,l,h1,h2,h3,rfl⟩,fun i b hb=>⟨b,hb,Nat.le_refl _,rfl,fun _=>⟨rfl,id,id⟩⟩⟩
end
end Lon
