/- What is proved here: what the program's functions come to, as far as the claimed statement asks. Conditions: those that each theorem names, and no others. -/
import Derived.Test.YtleiinhaljdcoaaGreatDoorP2
import Derived.Test.YtleiinhaljdcoaaGreatDoorRows
set_option linter.unusedSimpArgs false
set_option linter.unusedVariables false
namespace Go.Proofs.YtleiinhaljdcoaaGreatDoor
open Go Lon
section
open Go.Operand renaming tmp → t,const → c
open Lon.AOp renaming mv → m
def q7K:q0f:=(.seq (.ops [⟨some 2,m (c (.int .i64 0)),none⟩]) (.seq (.seq (.ops [⟨some 3,m (t 0),none⟩]) (.block 0 (.seq (.ops [⟨some 5,.int .eql (t 3) (c (.int .u8 2)),none⟩,⟨some 4,m (t 5),none⟩]) (.cond (t 4) (.seq (.ops [⟨some 2,m (c (.int .i64 7858)),none⟩]) .ret) (.seq (.ops [⟨some 7,.int .eql (t 3) (c (.int .u8 5)),none⟩,⟨some 6,m (t 7),none⟩]) (.cond (t 6) (.seq (.ops [⟨some 2,m (c (.int .i64 7860)),none⟩]) .ret) (.seq (.ops [⟨some 9,.int .eql (t 3) (c (.int .u8 6)),none⟩,⟨some 8,m (t 9),none⟩]) (.cond (t 8) (.seq (.ops [⟨some 2,m (c (.int .i64 7850)),none⟩]) .ret) (.seq (.ops [⟨some 11,.int .eql (t 3) (c (.int .u8 20)),none⟩,⟨some 10,m (t 11),none⟩]) (.cond (t 10) (.seq (.ops [⟨some 2,m (c (.int .i64 7926)),none⟩]) .ret) (.seq (.ops [⟨some 13,.int .eql (t 3) (c (.int .u8 25)),none⟩,⟨some 12,m (t 13),none⟩]) (.cond (t 12) (.seq (.ops [⟨some 2,m (c (.int .i64 7928)),none⟩]) .ret) (.seq (.ops [⟨some 15,.int .eql (t 3) (c (.int .u8 30)),none⟩,⟨some 14,m (t 15),none⟩]) (.cond (t 14) (.seq (.ops [⟨some 2,m (c (.int .i64 7924)),none⟩]) .ret) .skip)))))))))))))) (.seq (.seq (.ops [⟨some 16,m (t 0),none⟩,⟨some 17,.int .lss (t 16) (c (.int .u8 128)),none⟩]) (.cond (t 17) (.seq (.ops [⟨some 18,m (t 0),none⟩,⟨some 19,.conv .i64 (t 18),none⟩,⟨some 2,m (t 19),none⟩]) .ret) .skip)) (.seq (.ops [⟨some 20,.call (.func 107) [],none⟩,⟨some 21,m (t 0),none⟩,⟨some 22,.int .sub (t 21) (c (.int .u8 128)),none⟩,⟨some 23,.index (t 20) (t 22) 128 false 1,none⟩,⟨some 2,m (t 23),none⟩]) .ret))))
def q3Y:q0h:=⟨1,24,[.tmp 2],q7K⟩
theorem k1i:FOK Tryz.prog 81 q3Y:=FOK.of [] Tryz.func81 (by kernel_rfl) (by kernel_rfl)
def k1j:q0f:=(.seq (.ops [⟨some 9,.int .lss (t 8) (t 7),none⟩]) (.seq (.cond (t 9) .skip (.exit 0)) (.seq (.block 1 (.seq (.ops [⟨some 10,.iaddr (t 6) (t 8) 2,none⟩,⟨some 11,.load (t 10) (some 2),none⟩,⟨some 5,.alloc [(.int .i64 0),(.int .i64 0)] 162,none⟩,⟨none,.store (t 5) (t 11) 2,none⟩]) (.ops [⟨some 12,m (t 3),none⟩,⟨some 13,.aaddr (t 5) (c (.int .i64 0)) 2 1,none⟩,⟨some 14,.load (t 13) none,none⟩,⟨some 15,.bslice 3 1 1 [(.int .i64 0)] [(0,1,(t 14))],none⟩,⟨some 16,.aaddr (t 5) (c (.int .i64 1)) 2 1,none⟩,⟨some 17,.load (t 16) none,none⟩,⟨some 18,.bslice 3 1 1 [(.int .i64 0)] [(0,1,(t 17))],none⟩,⟨some 19,.build [(.slice none 0 0),(.slice none 0 0)] [(0,1,(t 15)),(1,1,(t 18))],none⟩,⟨some 20,.bslice 127 1 2 [(.slice none 0 0),(.slice none 0 0)] [(0,2,(t 19))],none⟩,⟨some 21,.append (t 12) (t 20) 127 2 48,none⟩,⟨some 3,m (t 21),none⟩]))) (.ops [⟨some 22,.int .add (t 8) (c (.int .i64 1)),none⟩,⟨some 8,m (t 22),none⟩]))))
def k3u:q0f:=(.seq (.ops [⟨some 2,m (c (.slice none 0 0)),none⟩]) (.seq (.ops [⟨some 3,m (c (.slice none 0 0)),none⟩]) (.seq (.seq (.ops [⟨some 6,m (t 0),none⟩,⟨some 7,.len false (t 6),none⟩,⟨some 8,m (c (.int .i64 0)),none⟩]) (.block 0 (.loop [3,6,7,8] k1j))) (.seq (.ops [⟨some 23,m (t 3),none⟩,⟨some 2,m (t 23),none⟩]) .ret))))
def q8O:q0h:=⟨1,24,[.tmp 2],k3u⟩
theorem k2g:FOK Tryz.prog 82 q8O:=FOK.of [[3,6,7,8]] Tryz.func82 (by kernel_rfl) (by kernel_rfl)
def k8B:q0f:=(.seq (.ops [⟨some 0,m (c (.slice none 0 0)),none⟩]) (.seq (.ops [⟨some 1,.build [(.int .i64 0),(.int .i64 0)] [(0,1,(.const (.int .i64 161))),(1,1,(.const (.int .i64 258)))],none⟩,⟨some 2,.build [(.int .i64 0),(.int .i64 0)] [(0,1,(.const (.int .i64 162))),(1,1,(.const (.int .i64 194)))],none⟩,⟨some 3,.build [(.int .i64 0),(.int .i64 0)] [(0,1,(.const (.int .i64 163))),(1,1,(.const (.int .i64 202)))],none⟩,⟨some 4,.build [(.int .i64 0),(.int .i64 0)] [(0,1,(.const (.int .i64 164))),(1,1,(.const (.int .i64 212)))],none⟩,⟨some 5,.build [(.int .i64 0),(.int .i64 0)] [(0,1,(.const (.int .i64 165))),(1,1,(.const (.int .i64 416)))],none⟩,⟨some 6,.build [(.int .i64 0),(.int .i64 0)] [(0,1,(.const (.int .i64 166))),(1,1,(.const (.int .i64 431)))],none⟩,⟨some 7,.build [(.int .i64 0),(.int .i64 0)] [(0,1,(.const (.int .i64 167))),(1,1,(.const (.int .i64 272)))],none⟩,⟨some 8,.build [(.int .i64 0),(.int .i64 0)] [(0,1,(.const (.int .i64 168))),(1,1,(.const (.int .i64 259)))],none⟩,⟨some 9,.build [(.int .i64 0),(.int .i64 0)] [(0,1,(.const (.int .i64 169))),(1,1,(.const (.int .i64 226)))],none⟩,⟨some 10,.build [(.int .i64 0),(.int .i64 0)] [(0,1,(.const (.int .i64 170))),(1,1,(.const (.int .i64 234)))],none⟩,⟨some 11,.build [(.int .i64 0),(.int .i64 0)] [(0,1,(.const (.int .i64 171))),(1,1,(.const (.int .i64 244)))],none⟩,⟨some 12,.build [(.int .i64 0),(.int .i64 0)] [(0,1,(.const (.int .i64 172))),(1,1,(.const (.int .i64 417)))],none⟩,⟨some 13,.build [(.int .i64 0),(.int .i64 0)] [(0,1,(.const (.int .i64 173))),(1,1,(.const (.int .i64 432)))],none⟩,⟨some 14,.build [(.int .i64 0),(.int .i64 0)] [(0,1,(.const (.int .i64 174))),(1,1,(.const (.int .i64 273)))],none⟩,⟨some 15,.build [(.int .i64 0),(.int .i64 0)] [(0,1,(.const (.int .i64 181))),(1,1,(.const (.int .i64 224)))],none⟩,⟨some 16,.build [(.int .i64 0),(.int .i64 0)] [(0,1,(.const (.int .i64 182))),(1,1,(.const (.int .i64 7843)))],none⟩,⟨some 17,.build [(.int .i64 0),(.int .i64 0)] [(0,1,(.const (.int .i64 183))),(1,1,(.const (.int .i64 227)))],none⟩,⟨some 18,.build [(.int .i64 0),(.int .i64 0)] [(0,1,(.const (.int .i64 184))),(1,1,(.const (.int .i64 225)))],none⟩,⟨some 19,.build [(.int .i64 0),(.int .i64 0)] [(0,1,(.const (.int .i64 185))),(1,1,(.const (.int .i64 7841)))],none⟩,⟨some 20,.build [(.int .i64 0),(.int .i64 0)] [(0,1,(.const (.int .i64 187))),(1,1,(.const (.int .i64 7857)))],none⟩,⟨some 21,.build [(.int .i64 0),(.int .i64 0)] [(0,1,(.const (.int .i64 188))),(1,1,(.const (.int .i64 7859)))],none⟩,⟨some 22,.build [(.int .i64 0),(.int .i64 0)] [(0,1,(.const (.int .i64 189))),(1,1,(.const (.int .i64 7861)))],none⟩,⟨some 23,.build [(.int .i64 0),(.int .i64 0)] [(0,1,(.const (.int .i64 190))),(1,1,(.const (.int .i64 7855)))],none⟩,⟨some 24,.build [(.int .i64 0),(.int .i64 0)] [(0,1,(.const (.int .i64 198))),(1,1,(.const (.int .i64 7863)))],none⟩,⟨some 25,.build [(.int .i64 0),(.int .i64 0)] [(0,1,(.const (.int .i64 199))),(1,1,(.const (.int .i64 7847)))],none⟩,⟨some 26,.build [(.int .i64 0),(.int .i64 0)] [(0,1,(.const (.int .i64 200))),(1,1,(.const (.int .i64 7849)))],none⟩,⟨some 27,.build [(.int .i64 0),(.int .i64 0)] [(0,1,(.const (.int .i64 201))),(1,1,(.const (.int .i64 7851)))],none⟩,⟨some 28,.build [(.int .i64 0),(.int .i64 0)] [(0,1,(.const (.int .i64 202))),(1,1,(.const (.int .i64 7845)))],none⟩,⟨some 29,.build [(.int .i64 0),(.int .i64 0)] [(0,1,(.const (.int .i64 203))),(1,1,(.const (.int .i64 7853)))],none⟩,⟨some 30,.build [(.int .i64 0),(.int .i64 0)] [(0,1,(.const (.int .i64 204))),(1,1,(.const (.int .i64 232)))],none⟩,⟨some 31,.build [(.int .i64 0),(.int .i64 0)] [(0,1,(.const (.int .i64 206))),(1,1,(.const (.int .i64 7867)))],none⟩,⟨some 32,.build [(.int .i64 0),(.int .i64 0)] [(0,1,(.const (.int .i64 207))),(1,1,(.const (.int .i64 7869)))],none⟩,⟨some 33,.build [(.int .i64 0),(.int .i64 0)] [(0,1,(.const (.int .i64 208))),(1,1,(.const (.int .i64 233)))],none⟩,⟨some 34,.build [(.int .i64 0),(.int .i64 0)] [(0,1,(.const (.int .i64 209))),(1,1,(.const (.int .i64 7865)))],none⟩,⟨some 35,.build [(.int .i64 0),(.int .i64 0)] [(0,1,(.const (.int .i64 210))),(1,1,(.const (.int .i64 7873)))],none⟩,⟨some 36,.build [(.int .i64 0),(.int .i64 0)] [(0,1,(.const (.int .i64 211))),(1,1,(.const (.int .i64 7875)))],none⟩,⟨some 37,.build [(.int .i64 0),(.int .i64 0)] [(0,1,(.const (.int .i64 212))),(1,1,(.const (.int .i64 7877)))],none⟩,⟨some 38,.build [(.int .i64 0),(.int .i64 0)] [(0,1,(.const (.int .i64 213))),(1,1,(.const (.int .i64 7871)))],none⟩,⟨some 39,.build [(.int .i64 0),(.int .i64 0)] [(0,1,(.const (.int .i64 214))),(1,1,(.const (.int .i64 7879)))],none⟩,⟨some 40,.build [(.int .i64 0),(.int .i64 0)] [(0,1,(.const (.int .i64 215))),(1,1,(.const (.int .i64 236)))],none⟩,⟨some 41,.build [(.int .i64 0),(.int .i64 0)] [(0,1,(.const (.int .i64 216))),(1,1,(.const (.int .i64 7881)))],none⟩,⟨some 42,.build [(.int .i64 0),(.int .i64 0)] [(0,1,(.const (.int .i64 220))),(1,1,(.const (.int .i64 297)))],none⟩,⟨some 43,.build [(.int .i64 0),(.int .i64 0)] [(0,1,(.const (.int .i64 221))),(1,1,(.const (.int .i64 237)))],none⟩,⟨some 44,.build [(.int .i64 0),(.int .i64 0)] [(0,1,(.const (.int .i64 222))),(1,1,(.const (.int .i64 7883)))],none⟩,⟨some 45,.build [(.int .i64 0),(.int .i64 0)] [(0,1,(.const (.int .i64 223))),(1,1,(.const (.int .i64 242)))],none⟩,⟨some 46,.build [(.int .i64 0),(.int .i64 0)] [(0,1,(.const (.int .i64 225))),(1,1,(.const (.int .i64 7887)))],none⟩,⟨some 47,.build [(.int .i64 0),(.int .i64 0)] [(0,1,(.const (.int .i64 226))),(1,1,(.const (.int .i64 245)))],none⟩,⟨some 48,.build [(.int .i64 0),(.int .i64 0)] [(0,1,(.const (.int .i64 227))),(1,1,(.const (.int .i64 243)))],none⟩,⟨some 49,.build [(.int .i64 0),(.int .i64 0)] [(0,1,(.const (.int .i64 228))),(1,1,(.const (.int .i64 7885)))],none⟩,⟨some 50,.build [(.int .i64 0),(.int .i64 0)] [(0,1,(.const (.int .i64 229))),(1,1,(.const (.int .i64 7891)))],none⟩,⟨some 51,.build [(.int .i64 0),(.int .i64 0)] [(0,1,(.const (.int .i64 230))),(1,1,(.const (.int .i64 7893)))],none⟩,⟨some 52,.build [(.int .i64 0),(.int .i64 0)] [(0,1,(.const (.int .i64 231))),(1,1,(.const (.int .i64 7895)))],none⟩,⟨some 53,.build [(.int .i64 0),(.int .i64 0)] [(0,1,(.const (.int .i64 232))),(1,1,(.const (.int .i64 7889)))],none⟩,⟨some 54,.build [(.int .i64 0),(.int .i64 0)] [(0,1,(.const (.int .i64 233))),(1,1,(.const (.int .i64 7897)))],none⟩,⟨some 55,.build [(.int .i64 0),(.int .i64 0)] [(0,1,(.const (.int .i64 234))),(1,1,(.const (.int .i64 7901)))],none⟩,⟨some 56,.build [(.int .i64 0),(.int .i64 0)] [(0,1,(.const (.int .i64 235))),(1,1,(.const (.int .i64 7903)))],none⟩,⟨some 57,.build [(.int .i64 0),(.int .i64 0)] [(0,1,(.const (.int .i64 236))),(1,1,(.const (.int .i64 7905)))],none⟩,⟨some 58,.build [(.int .i64 0),(.int .i64 0)] [(0,1,(.const (.int .i64 237))),(1,1,(.const (.int .i64 7899)))],none⟩,⟨some 59,.build [(.int .i64 0),(.int .i64 0)] [(0,1,(.const (.int .i64 238))),(1,1,(.const (.int .i64 7907)))],none⟩,⟨some 60,.build [(.int .i64 0),(.int .i64 0)] [(0,1,(.const (.int .i64 239))),(1,1,(.const (.int .i64 249)))],none⟩,⟨some 61,.build [(.int .i64 0),(.int .i64 0)] [(0,1,(.const (.int .i64 241))),(1,1,(.const (.int .i64 7911)))],none⟩,⟨some 62,.build [(.int .i64 0),(.int .i64 0)] [(0,1,(.const (.int .i64 242))),(1,1,(.const (.int .i64 361)))],none⟩,⟨some 63,.build [(.int .i64 0),(.int .i64 0)] [(0,1,(.const (.int .i64 243))),(1,1,(.const (.int .i64 250)))],none⟩,⟨some 64,.build [(.int .i64 0),(.int .i64 0)] [(0,1,(.const (.int .i64 244))),(1,1,(.const (.int .i64 7909)))],none⟩,⟨some 65,.build [(.int .i64 0),(.int .i64 0)] [(0,1,(.const (.int .i64 245))),(1,1,(.const (.int .i64 7915)))],none⟩,⟨some 66,.build [(.int .i64 0),(.int .i64 0)] [(0,1,(.const (.int .i64 246))),(1,1,(.const (.int .i64 7917)))],none⟩,⟨some 67,.build [(.int .i64 0),(.int .i64 0)] [(0,1,(.const (.int .i64 247))),(1,1,(.const (.int .i64 7919)))],none⟩,⟨some 68,.build [(.int .i64 0),(.int .i64 0)] [(0,1,(.const (.int .i64 248))),(1,1,(.const (.int .i64 7913)))],none⟩,⟨some 69,.build [(.int .i64 0),(.int .i64 0)] [(0,1,(.const (.int .i64 249))),(1,1,(.const (.int .i64 7921)))],none⟩,⟨some 70,.build [(.int .i64 0),(.int .i64 0)] [(0,1,(.const (.int .i64 250))),(1,1,(.const (.int .i64 7923)))],none⟩,⟨some 71,.build [(.int .i64 0),(.int .i64 0)] [(0,1,(.const (.int .i64 251))),(1,1,(.const (.int .i64 7927)))],none⟩,⟨some 72,.build [(.int .i64 0),(.int .i64 0)] [(0,1,(.const (.int .i64 252))),(1,1,(.const (.int .i64 7929)))],none⟩,⟨some 73,.build [(.int .i64 0),(.int .i64 0)] [(0,1,(.const (.int .i64 253))),(1,1,(.const (.int .i64 253)))],none⟩,⟨some 74,.build [(.int .i64 0),(.int .i64 0)] [(0,1,(.const (.int .i64 254))),(1,1,(.const (.int .i64 7925)))],none⟩,⟨some 75,.bslice 162 74 2 [(.int .i64 0),(.int .i64 0)] [(0,2,(t 1)),(2,2,(t 2)),(4,2,(t 3)),(6,2,(t 4)),(8,2,(t 5)),(10,2,(t 6)),(12,2,(t 7)),(14,2,(t 8)),(16,2,(t 9)),(18,2,(t 10)),(20,2,(t 11)),(22,2,(t 12)),(24,2,(t 13)),(26,2,(t 14)),(28,2,(t 15)),(30,2,(t 16)),(32,2,(t 17)),(34,2,(t 18)),(36,2,(t 19)),(38,2,(t 20)),(40,2,(t 21)),(42,2,(t 22)),(44,2,(t 23)),(46,2,(t 24)),(48,2,(t 25)),(50,2,(t 26)),(52,2,(t 27)),(54,2,(t 28)),(56,2,(t 29)),(58,2,(t 30)),(60,2,(t 31)),(62,2,(t 32)),(64,2,(t 33)),(66,2,(t 34)),(68,2,(t 35)),(70,2,(t 36)),(72,2,(t 37)),(74,2,(t 38)),(76,2,(t 39)),(78,2,(t 40)),(80,2,(t 41)),(82,2,(t 42)),(84,2,(t 43)),(86,2,(t 44)),(88,2,(t 45)),(90,2,(t 46)),(92,2,(t 47)),(94,2,(t 48)),(96,2,(t 49)),(98,2,(t 50)),(100,2,(t 51)),(102,2,(t 52)),(104,2,(t 53)),(106,2,(t 54)),(108,2,(t 55)),(110,2,(t 56)),(112,2,(t 57)),(114,2,(t 58)),(116,2,(t 59)),(118,2,(t 60)),(120,2,(t 61)),(122,2,(t 62)),(124,2,(t 63)),(126,2,(t 64)),(128,2,(t 65)),(130,2,(t 66)),(132,2,(t 67)),(134,2,(t 68)),(136,2,(t 69)),(138,2,(t 70)),(140,2,(t 71)),(142,2,(t 72)),(144,2,(t 73)),(146,2,(t 74))],none⟩,⟨some 0,m (t 75),none⟩]) .ret))
def k2h:q0h:=⟨0,76,[.tmp 0],k8B⟩
theorem k6L:FOK Tryz.prog 83 k2h:=FOK.of [] Tryz.func83 (by kernel_rfl) (by kernel_rfl)
def q4W : q0f := (.seq (.ops [⟨some 26,.int .lss (t 25) (c (.int .i64 6)),none⟩]) (.seq (.cond (t 26) .skip (.exit 4)) (.seq (.block 5 (.seq (.ops [⟨some 27,m (t 25),none⟩,⟨some 28,.index (t 24) (t 25) 6 false 1,none⟩,⟨some 8,m (t 27),none⟩,⟨some 9,m (t 28),none⟩]) (.seq (.seq (.ops [⟨some 29,m (t 9),none⟩,⟨some 30,.int .eql (t 29) (c (.int .i64 0)),none⟩]) (.cond (t 30) (.exit 5) .skip)) (.seq (.ops [⟨some 31,.faddr (t 7) 0,none⟩,⟨some 32,.load (t 31) none,none⟩,⟨some 10,m (t 32),none⟩]) (.seq (.seq (.ops [⟨some 33,m (t 5),none⟩]) (.cond (t 33) (.ops [⟨some 34,m (t 10),none⟩,⟨some 35,.call (.func 109) [(t 34)],none⟩,⟨some 36,m (t 9),none⟩,⟨some 37,.call (.func 109) [(t 36)],none⟩,⟨some 10,m (t 35),none⟩,⟨some 9,m (t 37),none⟩]) .skip)) (.seq (.ops [⟨some 38,m (t 2),none⟩,⟨some 39,m (t 10),none⟩,⟨some 40,.faddr (t 7) 1,none⟩,⟨some 41,.load (t 40) none,none⟩,⟨some 42,.gen ⟨none,(.convert 3 49 (t 41)),49,"",#[],none⟩,none⟩,⟨some 43,m (t 8),none⟩,⟨some 44,.gen ⟨none,(.convert 3 49 (t 43)),49,"",#[],none⟩,none⟩,⟨some 45,.gen ⟨none,(.call ⟨.builtin .complex,#[(t 42),(t 44)],#[49,49]⟩),46,"",#[],none⟩,none⟩,⟨some 46,.build [(.int .i64 0),(.complex .f64 0 0)] [(0,1,(t 39)),(1,1,(t 45))],none⟩,⟨some 47,.bslice 154 1 2 [(.int .i64 0),(.complex .f64 0 0)] [(0,2,(t 46))],none⟩,⟨some 48,.append (t 38) (t 47) 154 2 24,none⟩,⟨some 2,m (t 48),none⟩]) (.ops [⟨some 49,m (t 3),none⟩,⟨some 50,m (t 9),none⟩,⟨some 51,.bslice 3 1 1 [(.int .i64 0)] [(0,1,(t 50))],none⟩,⟨some 52,.append (t 49) (t 51) 3 1 8,none⟩,⟨some 3,m (t 52),none⟩]))))))) (.ops [⟨some 53,.int .add (t 25) (c (.int .i64 1)),none⟩,⟨some 25,m (t 53),none⟩]))))
def q5X:q0f:=(.seq (.ops [⟨some 20,.int .lss (t 19) (t 18),none⟩]) (.seq (.cond (t 20) .skip (.exit 2)) (.seq (.block 3 (.seq (.ops [⟨some 21,.iaddr (t 17) (t 19) 8,none⟩,⟨some 22,.load (t 21) (some 8),none⟩,⟨some 7,.alloc [(.int .i64 0),(.int .i64 0),(.int .i64 0),(.int .i64 0),(.int .i64 0),(.int .i64 0),(.int .i64 0),(.int .i64 0)] 209,none⟩,⟨none,.store (t 7) (t 22) 8,none⟩]) (.seq (.ops [⟨some 23,.faddr (t 7) 2,none⟩,⟨some 24,.load (t 23) (some 6),none⟩,⟨some 25,m (c (.int .i64 0)),none⟩]) (.block 4 (.loop [2,3,5,7,11,12,13,17,18,19,24,25] q4W))))) (.ops [⟨some 54,.int .add (t 19) (c (.int .i64 1)),none⟩,⟨some 19,m (t 54),none⟩]))))
def q5Y:q0f:=(.seq (.ops [⟨some 14,.int .lss (t 13) (t 12),none⟩]) (.seq (.cond (t 14) .skip (.exit 0)) (.seq (.block 1 (.seq (.ops [⟨some 15,.iaddr (t 11) (t 13) 1,none⟩,⟨some 16,.load (t 15) none,none⟩,⟨some 5,m (t 16),none⟩]) (.seq (.ops [⟨some 17,.call (.func 108) [],none⟩,⟨some 18,.len false (t 17),none⟩,⟨some 19,m (c (.int .i64 0)),none⟩]) (.block 2 (.loop [2,3,5,11,12,13,17,18,19] q5X))))) (.ops [⟨some 55,.int .add (t 13) (c (.int .i64 1)),none⟩,⟨some 13,m (t 55),none⟩]))))
def k4c:q0f:=(.seq (.ops [⟨some 0,m (c (.slice none 0 0)),none⟩,⟨some 1,m (c (.slice none 0 0)),none⟩]) (.seq (.ops [⟨some 2,m (c (.slice none 0 0)),none⟩]) (.seq (.ops [⟨some 3,m (c (.slice none 0 0)),none⟩]) (.seq (.seq (.ops [⟨some 11,.bslice 4 2 1 [(.bool false)] [(0,1,(.const (.bool false))),(1,1,(.const (.bool true)))],none⟩,⟨some 12,.len false (t 11),none⟩,⟨some 13,m (c (.int .i64 0)),none⟩]) (.block 0 (.loop [2,3,11,12,13] q5Y))) (.seq (.ops [⟨some 56,m (t 2),none⟩,⟨some 57,m (t 3),none⟩,⟨some 0,m (t 56),none⟩,⟨some 1,m (t 57),none⟩]) .ret)))))
def q8o:q0h:=⟨0,58,[.tmp 0,.tmp 1],k4c⟩
theorem k8C:FOK Tryz.prog 84 q8o:=FOK.of [[2,3,11,12,13],[2,3,5,11,12,13,17,18,19],[2,3,5,7,11,12,13,17,18,19,24,25]] Tryz.func84 (by kernel_rfl) (by kernel_rfl)
def k8D : q0f := (.seq (.ops [⟨some 1,.box (t 0) 154,none⟩,⟨some 2,m (c (.slice none 0 0)),none⟩]) (.seq (.ops [⟨some 11,.load (t 1) (some 2),none⟩,⟨some 12,.call (.func 110) [(t 11)],none⟩,⟨some 10,m (t 12),none⟩,⟨some 13,.ext (t 10) 0,none⟩,⟨some 14,.ext (t 10) 1,none⟩,⟨some 3,m (t 13),none⟩,⟨some 4,m (t 14),none⟩]) (.seq (.seq (.ops [⟨some 15,m (t 4),none⟩,⟨some 16,.not (t 15),none⟩]) (.cond (t 16) (.seq (.ops [⟨some 2,m (c (.slice none 0 0)),none⟩]) .ret) .skip)) (.seq (.seq (.ops [⟨some 17,m (t 3),none⟩,⟨some 18,.call (.func 111) [(t 17)],none⟩,⟨some 5,m (t 18),none⟩]) (.seq (.ops [⟨some 19,m (t 5),none⟩,⟨some 20,.int .gtr (t 19) (c (.int .i64 0)),none⟩]) (.cond (t 20) (.seq (.ops [⟨some 21,m (t 5),none⟩,⟨some 22,.bslice 3 1 1 [(.int .i64 0)] [(0,1,(t 21))],none⟩,⟨some 2,m (t 22),none⟩]) .ret) .skip))) (.seq (.draw [⟨some 23,.faddr (t 1) 0,none⟩,⟨some 24,.load (t 23) none,none⟩,⟨some 25,.faddr (t 1) 1,none⟩,⟨some 26,.load (t 25) none,none⟩,⟨some 27,.gen ⟨none,(.call ⟨.builtin .real,#[(t 26)],#[46]⟩),49,"",#[],none⟩,none⟩,⟨some 28,.gen ⟨none,(.convert 49 3 (t 27)),3,"",#[],none⟩,none⟩,⟨some 29,.faddr (t 1) 1,none⟩,⟨some 30,.load (t 29) none,none⟩,⟨some 31,.gen ⟨none,(.call ⟨.builtin .imag,#[(t 30)],#[46]⟩),49,"",#[],none⟩,none⟩,⟨some 32,.gen ⟨none,(.convert 49 3 (t 31)),3,"",#[],none⟩,none⟩,⟨some 6,m (t 24),none⟩,⟨some 7,m (t 28),none⟩,⟨some 8,m (t 32),none⟩]) (.seq (.seq (.ops [⟨some 33,m (t 7),none⟩,⟨some 34,.int .eql (t 33) (c (.int .i64 3)),none⟩]) (.cond (t 34) (.ops [⟨some 35,.mop (.make 211),none⟩,⟨none,.mop (.set (t 35) (c (.int .i64 111)) (c (.int .i64 244))),none⟩,⟨none,.mop (.set (t 35) (c (.int .i64 117)) (c (.int .i64 246))),none⟩,⟨some 36,m (t 35),none⟩,⟨some 37,m (t 6),none⟩,⟨some 38,.mop (.get (t 36) (t 37) (.int .i64 0) false),none⟩,⟨some 6,m (t 38),none⟩]) .skip)) (.seq (.seq (.ops [⟨some 39,m (t 7),none⟩,⟨some 40,.call (.func 112) [(t 39)],none⟩,⟨some 41,m (t 8),none⟩,⟨some 42,.index (t 40) (t 41) 6 false 1,none⟩,⟨some 9,m (t 42),none⟩]) (.seq (.ops [⟨some 43,m (t 9),none⟩,⟨some 44,.int .gtr (t 43) (c (.int .i64 0)),none⟩]) (.cond (t 44) (.seq (.ops [⟨some 45,m (t 6),none⟩,⟨some 46,m (t 9),none⟩,⟨some 47,.bslice 3 2 1 [(.int .i64 0)] [(0,1,(t 45)),(1,1,(t 46))],none⟩,⟨some 2,m (t 47),none⟩]) .ret) .skip))) (.seq (.ops [⟨some 48,m (t 6),none⟩,⟨some 49,.bslice 3 1 1 [(.int .i64 0)] [(0,1,(t 48))],none⟩,⟨some 2,m (t 49),none⟩]) .ret))))))))
def k2i:q0h:=⟨1,50,[.tmp 2],k8D⟩
theorem k6M:FOK Tryz.prog 85 k2i:=FOK.of [[0,1,2,3,4,5,6,7,8,9,10,11,12]] Tryz.func85 (by kernel_rfl) (by kernel_rfl)
def k8E:q0f:=(.seq (.ops [⟨some 4,.alloc [(.slice none 0 0),(.slice none 0 0)] 127,none⟩]) (.seq (.ops [⟨some 5,m (t 0),none⟩,⟨some 6,m (t 1),none⟩,⟨some 7,.build [(.slice none 0 0),(.slice none 0 0)] [(0,1,(t 5)),(1,1,(t 6))],none⟩,⟨none,.store (t 4) (t 7) 2,none⟩]) .ret))
def k2j:q0h:=⟨2,8,[.cell 4 (some 2)],k8E⟩
theorem k6N:FOK Tryz.prog 86 k2j:=FOK.of [] Tryz.func86 (by kernel_rfl) (by kernel_rfl)
def k3v:q0f:=(.seq (.ops [⟨some 0,m (c (.slice none 0 0)),none⟩]) (.seq (.ops [⟨some 1,.bslice 3 13 1 [(.int .i64 0)] [(0,1,(.const (.int .i64 2949))),(1,1,(.const (.int .i64 2950))),(2,1,(.const (.int .i64 2951))),(3,1,(.const (.int .i64 2952))),(4,1,(.const (.int .i64 2953))),(5,1,(.const (.int .i64 2954))),(6,1,(.const (.int .i64 2958))),(7,1,(.const (.int .i64 2959))),(8,1,(.const (.int .i64 2960))),(9,1,(.const (.int .i64 2962))),(10,1,(.const (.int .i64 2963))),(11,1,(.const (.int .i64 2964))),(12,1,(.const (.int .i64 2947)))],none⟩,⟨some 0,m (t 1),none⟩]) .ret))
def q8P:q0h:=⟨0,2,[.tmp 0],k3v⟩
theorem k2k:FOK Tryz.prog 87 q8P:=FOK.of [] Tryz.func87 (by kernel_rfl) (by kernel_rfl)
def q9J:q0f:=(.seq (.ops [⟨some 0,m (c (.slice none 0 0)),none⟩]) (.seq (.ops [⟨some 1,.bslice 3 22 1 [(.int .i64 0)] [(0,1,(.const (.int .i64 2965))),(1,1,(.const (.int .i64 2969))),(2,1,(.const (.int .i64 2970))),(3,1,(.const (.int .i64 2974))),(4,1,(.const (.int .i64 2975))),(5,1,(.const (.int .i64 2979))),(6,1,(.const (.int .i64 2980))),(7,1,(.const (.int .i64 2984))),(8,1,(.const (.int .i64 2986))),(9,1,(.const (.int .i64 2990))),(10,1,(.const (.int .i64 2991))),(11,1,(.const (.int .i64 2992))),(12,1,(.const (.int .i64 2994))),(13,1,(.const (.int .i64 2997))),(14,1,(.const (.int .i64 2996))),(15,1,(.const (.int .i64 2995))),(16,1,(.const (.int .i64 2993))),(17,1,(.const (.int .i64 2985))),(18,1,(.const (.int .i64 2972))),(19,1,(.const (.int .i64 2999))),(20,1,(.const (.int .i64 3000))),(21,1,(.const (.int .i64 3001)))],none⟩,⟨some 0,m (t 1),none⟩]) .ret))
def q5Z:q0h:=⟨0,2,[.tmp 0],q9J⟩
theorem q9a:FOK Tryz.prog 88 q5Z:=FOK.of [] Tryz.func88 (by kernel_rfl) (by kernel_rfl)
def q4L:q0f:=(.seq (.ops [⟨some 9,.int .lss (t 8) (t 7),none⟩]) (.seq (.cond (t 9) .skip (.exit 0)) (.seq (.block 1 (.seq (.ops [⟨some 10,m (t 8),none⟩,⟨some 11,.iaddr (t 6) (t 8) 2,none⟩,⟨some 12,.load (t 11) (some 2),none⟩,⟨some 5,.alloc [(.slice none 0 0),(.slice none 0 0)] 127,none⟩,⟨some 4,m (t 10),none⟩,⟨none,.store (t 5) (t 12) 2,none⟩]) (.block 2 (.seq (.ops [⟨some 14,m (t 4),none⟩,⟨some 15,.int .geq (t 14) (c (.int .i64 512)),none⟩,⟨some 13,m (t 15),none⟩]) (.cond (t 13) (.seq (.ops [⟨some 16,m (t 4),none⟩,⟨some 2,m (t 16),none⟩,⟨some 3,m (c (.int .i64 7)),none⟩]) .ret) (.seq (.ops [⟨some 18,.faddr (t 5) 0,none⟩,⟨some 19,.load (t 18) none,none⟩,⟨some 20,.call (.func 113) [(t 19)],none⟩,⟨some 21,.not (t 20),none⟩,⟨some 22,m (t 21),none⟩,⟨some 23,.faddr (t 5) 1,some (22,false)⟩,⟨some 24,.load (t 23) none,some (22,false)⟩,⟨some 25,.call (.func 113) [(t 24)],some (22,false)⟩,⟨some 26,.not (t 25),some (22,false)⟩,⟨some 27,.pick (t 22) (c (.bool true)) (t 26),none⟩,⟨some 17,m (t 27),none⟩]) (.cond (t 17) (.seq (.ops [⟨some 28,m (t 4),none⟩,⟨some 2,m (t 28),none⟩,⟨some 3,m (c (.int .i64 9)),none⟩]) .ret) (.seq (.draw [⟨some 30,m (t 0),none⟩,⟨some 31,m (t 4),none⟩,⟨some 32,.slice (t 30) none (some (t 31)) 2,none⟩,⟨some 33,.faddr (t 5) 0,none⟩,⟨some 34,.load (t 33) none,none⟩,⟨some 35,.call (.func 91) [(t 32),(t 34)],none⟩,⟨some 36,.int .geq (t 35) (c (.int .i64 0)),none⟩,⟨some 29,m (t 36),none⟩]) (.cond (t 29) (.seq (.ops [⟨some 37,m (t 4),none⟩,⟨some 2,m (t 37),none⟩,⟨some 3,m (c (.int .i64 8)),none⟩]) .ret) .skip))))))))) (.ops [⟨some 38,.int .add (t 8) (c (.int .i64 1)),none⟩,⟨some 8,m (t 38),none⟩]))))
def k0T:q0f:=(.seq (.ops [⟨some 2,m (c (.int .i64 0)),none⟩,⟨some 3,m (c (.int .i64 0)),none⟩]) (.seq (.seq (.ops [⟨some 6,m (t 0),none⟩,⟨some 7,.len false (t 6),none⟩,⟨some 8,m (c (.int .i64 0)),none⟩]) (.block 0 (.loop [0,6,7,8] q4L))) (.seq (.ops [⟨some 2,m (c (.int .i64 (-1))),none⟩,⟨some 3,m (c (.int .i64 0)),none⟩]) .ret)))
def q6a:q0h:=⟨1,39,[.tmp 2,.tmp 3],k0T⟩
theorem k5l:FOK Tryz.prog 89 q6a:=FOK.of [[0,6,7,8],[0,1,2,3,4,5,6,7]] Tryz.func89 (by kernel_rfl) (by kernel_rfl)
def q2G:q0f:=(.seq (.seq (.ops [⟨some 28,m (t 8),none⟩,⟨some 29,.int .gtr (t 28) (c (.int .i64 0)),none⟩]) (.cond (t 29) .skip (.exit 0))) (.seq (.block 1 (.seq (.ops [⟨some 38,m (t 0),none⟩,⟨some 39,.nilChk (t 38),none⟩,⟨some 40,.faddr (t 39) 0,none⟩,⟨some 41,.load (t 40) none,none⟩,⟨some 42,m (t 8),none⟩,⟨some 43,.iaddr (t 41) (t 42) 4,none⟩,⟨some 44,.faddr (t 43) 0,none⟩,⟨some 45,.load (t 44) none,none⟩,⟨some 46,m (t 2),none⟩,⟨some 47,.int .eql (t 45) (t 46),none⟩]) (.cond (t 47) (.seq (.ops [⟨some 48,m (t 8),none⟩,⟨some 6,m (t 48),none⟩,⟨some 7,m (c (.bool true)),none⟩]) .ret) .skip))) (.ops [⟨some 30,m (t 0),none⟩,⟨some 31,.nilChk (t 30),none⟩,⟨some 32,.faddr (t 31) 0,none⟩,⟨some 33,.load (t 32) none,none⟩,⟨some 34,m (t 8),none⟩,⟨some 35,.iaddr (t 33) (t 34) 4,none⟩,⟨some 36,.faddr (t 35) 2,none⟩,⟨some 37,.load (t 36) none,none⟩,⟨some 8,m (t 37),none⟩])))
def q6D:q0f:=(.seq (.ops [⟨some 6,m (c (.int .i64 0)),none⟩,⟨some 7,m (c (.bool false)),none⟩]) (.seq (.seq (.ops [⟨some 9,m (t 1),none⟩,⟨some 10,.int .lss (t 9) (c (.int .i64 0)),none⟩,⟨some 11,m (t 10),none⟩,⟨some 12,m (t 1),some (11,false)⟩,⟨some 13,m (t 0),some (11,false)⟩,⟨some 14,.nilChk (t 13),some (11,false)⟩,⟨some 15,.faddr (t 14) 0,some (11,false)⟩,⟨some 16,.load (t 15) none,some (11,false)⟩,⟨some 17,.len false (t 16),some (11,false)⟩,⟨some 18,.int .geq (t 12) (t 17),some (11,false)⟩,⟨some 19,.pick (t 11) (c (.bool true)) (t 18),none⟩]) (.cond (t 19) (.seq (.ops [⟨some 6,m (c (.int .i64 0)),none⟩,⟨some 7,m (c (.bool false)),none⟩]) .ret) .skip)) (.seq (.seq (.ops [⟨some 20,m (t 0),none⟩,⟨some 21,.nilChk (t 20),none⟩,⟨some 22,.faddr (t 21) 0,none⟩,⟨some 23,.load (t 22) none,none⟩,⟨some 24,m (t 1),none⟩,⟨some 25,.iaddr (t 23) (t 24) 4,none⟩,⟨some 26,.faddr (t 25) 1,none⟩,⟨some 27,.load (t 26) none,none⟩,⟨some 8,m (t 27),none⟩]) (.block 0 (.loop [0,2,8] q2G))) (.seq (.ops [⟨some 6,m (c (.int .i64 0)),none⟩,⟨some 7,m (c (.bool false)),none⟩]) .ret))))
def q3j:q0h:=⟨3,49,[.tmp 6,.tmp 7],q6D⟩
theorem q9K:FOK Tryz.prog 90 q3j:=FOK.of [[0,2,8]] Tryz.func90 (by kernel_rfl) (by kernel_rfl)
def k2l:q0f:=(.seq (.ops [⟨some 3,.box (t 1) 34,none⟩,⟨some 4,m (c (.int .i64 0)),none⟩]) (.seq (.ops [⟨some 5,m (t 0),none⟩,⟨some 6,.mkfun (.func 115) [] [(t 3)],none⟩,⟨some 7,.call (.func 114) [(t 5),(t 6)],none⟩,⟨some 4,m (t 7),none⟩]) .ret))
def q7e:q0h:=⟨2,8,[.tmp 4],k2l⟩
theorem k6O:FOK Tryz.prog 91 q7e:=FOK.of [] Tryz.func91 (by kernel_rfl) (by kernel_rfl)
def k0U:q0f:=(.seq (.ops [⟨some 3,.box (t 1) 3,none⟩,⟨some 4,m (c (.bool false)),none⟩]) (.seq (.ops [⟨some 5,m (t 0),none⟩,⟨some 6,.mkfun (.func 118) [] [(t 3)],none⟩,⟨some 7,.call (.func 117) [(t 5),(t 6)],none⟩,⟨some 4,m (t 7),none⟩]) .ret))
def q6b:q0h:=⟨2,8,[.tmp 4],k0U⟩
theorem k5m:FOK Tryz.prog 92 q6b:=FOK.of [] Tryz.func92 (by kernel_rfl) (by kernel_rfl)
def q2j:q0f:=(.seq (.ops [⟨some 2,m (c (.slice none 0 0)),none⟩]) (.seq (.seq (.ops [⟨some 3,m (t 0),none⟩,⟨some 4,.isNil 1 false (t 3),none⟩]) (.cond (t 4) (.seq (.ops [⟨some 2,m (c (.slice none 0 0)),none⟩]) .ret) .skip)) (.seq (.ops [⟨some 5,.bslice 3 0 1 [(.int .i64 0)] [],none⟩,⟨some 6,m (t 0),none⟩,⟨some 7,.append (t 5) (t 6) 3 1 8,none⟩,⟨some 2,m (t 7),none⟩]) .ret)))
def q0I:q0h:=⟨1,8,[.tmp 2],q2j⟩
theorem q5S:FOK Tryz.prog 93 q0I:=FOK.of [] Tryz.func93 (by kernel_rfl) (by kernel_rfl)
def q3Z : q0f := (.seq (.ops [⟨some 9,.int .lss (t 8) (t 7),none⟩]) (.seq (.cond (t 9) .skip (.exit 0)) (.seq (.block 1 (.seq (.ops [⟨some 10,m (t 8),none⟩,⟨some 5,m (t 10),none⟩]) (.seq (.ops [⟨some 11,m (t 1),none⟩,⟨some 12,m (t 0),none⟩,⟨some 13,m (t 5),none⟩,⟨some 14,.iaddr (t 12) (t 13) 1,none⟩,⟨some 15,.load (t 14) none,none⟩,⟨some 16,.gen ⟨none,(.binOp .eql 9 (t 11) (t 15) 9),4,"",#[],none⟩,none⟩]) (.cond (t 16) (.seq (.ops [⟨some 17,m (t 5),none⟩,⟨some 4,m (t 17),none⟩]) .ret) .skip)))) (.ops [⟨some 18,.int .add (t 8) (c (.int .i64 1)),none⟩,⟨some 8,m (t 18),none⟩]))))
def q4w:q0f:=(.seq (.ops [⟨some 4,m (c (.int .i64 0)),none⟩]) (.seq (.seq (.ops [⟨some 6,m (t 0),none⟩,⟨some 7,.len false (t 6),none⟩,⟨some 8,m (c (.int .i64 0)),none⟩]) (.block 0 (.loop [0,1,7,8] q3Z))) (.seq (.ops [⟨some 4,m (c (.int .i64 (-1))),none⟩]) .ret)))
def q2A:q0h:=⟨2,19,[.tmp 4],q4w⟩
theorem q4j:FOK Tryz.prog 100 q2A:=FOK.of [[0,1,7,8]] Tryz.func100 (by kernel_rfl) (by kernel_rfl)
def k2m:q0f:=(.seq (.ops [⟨some 10,.int .lss (t 9) (c (.int .i64 128)),none⟩]) (.seq (.cond (t 10) .skip (.exit 0)) (.seq (.block 1 (.seq (.ops [⟨some 11,m (t 9),none⟩,⟨some 2,m (t 11),none⟩]) (.ops [⟨some 12,m (t 1),none⟩,⟨some 13,m (t 2),none⟩,⟨some 14,.bslice 3 1 1 [(.int .i64 0)] [(0,1,(t 13))],none⟩,⟨some 15,m (t 2),none⟩,⟨some 16,.int .add (c (.int .i64 8192)) (t 15),none⟩,⟨some 17,.bslice 3 1 1 [(.int .i64 0)] [(0,1,(t 16))],none⟩,⟨some 18,.build [(.slice none 0 0),(.slice none 0 0)] [(0,1,(t 14)),(1,1,(t 17))],none⟩,⟨some 19,.bslice 127 1 2 [(.slice none 0 0),(.slice none 0 0)] [(0,2,(t 18))],none⟩,⟨some 20,.append (t 12) (t 19) 127 2 48,none⟩,⟨some 1,m (t 20),none⟩]))) (.ops [⟨some 21,.int .add (t 9) (c (.int .i64 1)),none⟩,⟨some 9,m (t 21),none⟩]))))
def k2n:q0f:=(.seq (.seq (.ops [⟨some 22,m (t 3),none⟩,⟨some 23,.int .leq (t 22) (c (.int .i64 250)),none⟩]) (.cond (t 23) .skip (.exit 2))) (.seq (.block 3 (.seq (.ops [⟨some 27,m (t 3),none⟩,⟨some 28,.conv .u8 (t 27),none⟩,⟨some 29,.call (.func 126) [(t 28)],none⟩,⟨some 26,m (t 29),none⟩,⟨some 30,.ext (t 26) 0,none⟩,⟨some 31,.ext (t 26) 1,none⟩,⟨some 4,m (t 30),none⟩,⟨some 5,m (t 31),none⟩]) (.seq (.ops [⟨some 32,m (t 5),none⟩]) (.cond (t 32) (.ops [⟨some 33,m (t 1),none⟩,⟨some 34,m (t 3),none⟩,⟨some 35,.bslice 3 1 1 [(.int .i64 0)] [(0,1,(t 34))],none⟩,⟨some 36,m (t 4),none⟩,⟨some 37,.bslice 3 1 1 [(.int .i64 0)] [(0,1,(t 36))],none⟩,⟨some 38,.build [(.slice none 0 0),(.slice none 0 0)] [(0,1,(t 35)),(1,1,(t 37))],none⟩,⟨some 39,.bslice 127 1 2 [(.slice none 0 0),(.slice none 0 0)] [(0,2,(t 38))],none⟩,⟨some 40,.append (t 33) (t 39) 127 2 48,none⟩,⟨some 1,m (t 40),none⟩]) .skip)))) (.ops [⟨some 24,m (t 3),none⟩,⟨some 25,.int .add (t 24) (c (.int .i64 1)),none⟩,⟨some 3,m (t 25),none⟩])))
def k2o:q0f:=(.seq (.ops [⟨some 44,.int .lss (t 43) (t 42),none⟩]) (.seq (.cond (t 44) .skip (.exit 4)) (.seq (.block 5 (.seq (.ops [⟨some 45,.iaddr (t 41) (t 43) 2,none⟩,⟨some 46,.load (t 45) (some 2),none⟩,⟨some 7,.alloc [(.int .i64 0),(.int .i64 0)] 162,none⟩,⟨none,.store (t 7) (t 46) 2,none⟩]) (.ops [⟨some 47,m (t 1),none⟩,⟨some 48,.aaddr (t 7) (c (.int .i64 0)) 2 1,none⟩,⟨some 49,.load (t 48) none,none⟩,⟨some 50,.bslice 3 2 1 [(.int .i64 0)] [(0,1,(t 49)),(1,1,(.const (.int .i64 233)))],none⟩,⟨some 51,.aaddr (t 7) (c (.int .i64 1)) 2 1,none⟩,⟨some 52,.load (t 51) none,none⟩,⟨some 53,.bslice 3 1 1 [(.int .i64 0)] [(0,1,(t 52))],none⟩,⟨some 54,.build [(.slice none 0 0),(.slice none 0 0)] [(0,1,(t 50)),(1,1,(t 53))],none⟩,⟨some 55,.bslice 127 1 2 [(.slice none 0 0),(.slice none 0 0)] [(0,2,(t 54))],none⟩,⟨some 56,.append (t 47) (t 55) 127 2 48,none⟩,⟨some 1,m (t 56),none⟩]))) (.ops [⟨some 57,.int .add (t 43) (c (.int .i64 1)),none⟩,⟨some 43,m (t 57),none⟩]))))
def k2p:q0f:=(.seq (.ops [⟨some 59,.int .lss (t 58) (c (.int .i64 9)),none⟩]) (.seq (.cond (t 59) .skip (.exit 6)) (.seq (.block 7 (.seq (.ops [⟨some 60,m (t 58),none⟩,⟨some 8,m (t 60),none⟩]) (.ops [⟨some 61,m (t 1),none⟩,⟨some 62,m (t 8),none⟩,⟨some 63,.call (.func 128) [(t 62)],none⟩,⟨some 64,.bslice 3 2 1 [(.int .i64 0)] [(0,1,(.const (.int .i64 239))),(1,1,(t 63))],none⟩,⟨some 65,m (t 8),none⟩,⟨some 66,.int .add (c (.int .i64 4096)) (t 65),none⟩,⟨some 67,.bslice 3 1 1 [(.int .i64 0)] [(0,1,(t 66))],none⟩,⟨some 68,.build [(.slice none 0 0),(.slice none 0 0)] [(0,1,(t 64)),(1,1,(t 67))],none⟩,⟨some 69,.bslice 127 1 2 [(.slice none 0 0),(.slice none 0 0)] [(0,2,(t 68))],none⟩,⟨some 70,.append (t 61) (t 69) 127 2 48,none⟩,⟨some 1,m (t 70),none⟩]))) (.ops [⟨some 71,.int .add (t 58) (c (.int .i64 1)),none⟩,⟨some 58,m (t 71),none⟩]))))
def k5n:q0f:=(.seq (.ops [⟨some 0,m (c (.slice none 0 0)),none⟩]) (.seq (.ops [⟨some 1,m (c (.slice none 0 0)),none⟩]) (.seq (.seq (.ops [⟨some 9,m (c (.int .i64 0)),none⟩]) (.block 0 (.loop [1,9] k2m))) (.seq (.seq (.ops [⟨some 3,m (c (.int .i64 161)),none⟩]) (.block 2 (.loop [1,3] k2n))) (.seq (.seq (.ops [⟨some 41,.call (.func 127) [],none⟩,⟨some 42,.len false (t 41),none⟩,⟨some 43,m (c (.int .i64 0)),none⟩]) (.block 4 (.loop [1,41,42,43] k2o))) (.seq (.seq (.ops [⟨some 58,m (c (.int .i64 0)),none⟩]) (.block 6 (.loop [1,58] k2p))) (.seq (.ops [⟨some 72,m (t 1),none⟩,⟨some 73,.bslice 3 1 1 [(.int .i64 0)] [(0,1,(.const (.int .i64 217)))],none⟩,⟨some 74,.bslice 3 1 1 [(.int .i64 0)] [(0,1,(.const (.int .i64 16397)))],none⟩,⟨some 75,.build [(.slice none 0 0),(.slice none 0 0)] [(0,1,(t 73)),(1,1,(t 74))],none⟩,⟨some 76,.bslice 3 1 1 [(.int .i64 0)] [(0,1,(.const (.int .i64 234)))],none⟩,⟨some 77,.bslice 3 1 1 [(.int .i64 0)] [(0,1,(.const (.int .i64 10596)))],none⟩,⟨some 78,.build [(.slice none 0 0),(.slice none 0 0)] [(0,1,(t 76)),(1,1,(t 77))],none⟩,⟨some 79,.bslice 3 2 1 [(.int .i64 0)] [(0,1,(.const (.int .i64 234))),(1,1,(.const (.int .i64 233)))],none⟩,⟨some 80,.bslice 3 1 1 [(.int .i64 0)] [(0,1,(.const (.int .i64 61)))],none⟩,⟨some 81,.build [(.slice none 0 0),(.slice none 0 0)] [(0,1,(t 79)),(1,1,(t 80))],none⟩,⟨some 82,.bslice 3 2 1 [(.int .i64 0)] [(0,1,(.const (.int .i64 232))),(1,1,(.const (.int .i64 232)))],none⟩,⟨some 83,.bslice 3 2 1 [(.int .i64 0)] [(0,1,(.const (.int .i64 77))),(1,1,(.const (.int .i64 16396)))],none⟩,⟨some 84,.build [(.slice none 0 0),(.slice none 0 0)] [(0,1,(t 82)),(1,1,(t 83))],none⟩,⟨some 85,.bslice 3 2 1 [(.int .i64 0)] [(0,1,(.const (.int .i64 232))),(1,1,(.const (.int .i64 233)))],none⟩,⟨some 86,.bslice 3 2 1 [(.int .i64 0)] [(0,1,(.const (.int .i64 77))),(1,1,(.const (.int .i64 16397)))],none⟩,⟨some 87,.build [(.slice none 0 0),(.slice none 0 0)] [(0,1,(t 85)),(1,1,(t 86))],none⟩,⟨some 88,.bslice 3 2 1 [(.int .i64 0)] [(0,1,(.const (.int .i64 240))),(1,1,(.const (.int .i64 184)))],none⟩,⟨some 89,.bslice 3 1 1 [(.int .i64 0)] [(0,1,(.const (.int .i64 82)))],none⟩,⟨some 90,.build [(.slice none 0 0),(.slice none 0 0)] [(0,1,(t 88)),(1,1,(t 89))],none⟩,⟨some 91,.bslice 3 2 1 [(.int .i64 0)] [(0,1,(.const (.int .i64 240))),(1,1,(.const (.int .i64 191)))],none⟩,⟨some 92,.bslice 3 1 1 [(.int .i64 0)] [(0,1,(.const (.int .i64 112)))],none⟩,⟨some 93,.build [(.slice none 0 0),(.slice none 0 0)] [(0,1,(t 91)),(1,1,(t 92))],none⟩,⟨some 94,.bslice 127 7 2 [(.slice none 0 0),(.slice none 0 0)] [(0,2,(t 75)),(2,2,(t 78)),(4,2,(t 81)),(6,2,(t 84)),(8,2,(t 87)),(10,2,(t 90)),(12,2,(t 93))],none⟩,⟨some 95,.append (t 72) (t 94) 127 2 48,none⟩,⟨some 0,m (t 95),none⟩]) .ret)))))))
def q9L:q0h:=⟨0,96,[.tmp 0],k5n⟩
theorem k3w:FOK Tryz.prog 101 q9L:=FOK.of [[1,9],[1,3],[1,41,42,43],[1,58]] Tryz.func101 (by kernel_rfl) (by kernel_rfl)
def q4x:q0f:=(.seq (.ops [⟨some 4,m (c (.int .i64 0)),none⟩]) (.seq (.seq (.ops [⟨some 5,m (t 1),none⟩,⟨some 6,.int .lss (t 5) (c (.int .i64 0)),none⟩,⟨some 7,m (t 6),none⟩,⟨some 8,m (t 1),some (7,false)⟩,⟨some 9,m (t 0),some (7,false)⟩,⟨some 10,.nilChk (t 9),some (7,false)⟩,⟨some 11,.faddr (t 10) 0,some (7,false)⟩,⟨some 12,.load (t 11) none,some (7,false)⟩,⟨some 13,.len false (t 12),some (7,false)⟩,⟨some 14,.int .geq (t 8) (t 13),some (7,false)⟩,⟨some 15,.pick (t 7) (c (.bool true)) (t 14),none⟩]) (.cond (t 15) (.seq (.ops [⟨some 4,m (c (.int .i64 (-1))),none⟩]) .ret) .skip)) (.seq (.ops [⟨some 16,m (t 0),none⟩,⟨some 17,.nilChk (t 16),none⟩,⟨some 18,.faddr (t 17) 0,none⟩,⟨some 19,.load (t 18) none,none⟩,⟨some 20,m (t 1),none⟩,⟨some 21,.iaddr (t 19) (t 20) 4,none⟩,⟨some 22,.faddr (t 21) 3,none⟩,⟨some 23,.load (t 22) none,none⟩,⟨some 4,m (t 23),none⟩]) .ret)))
def q1J:q0h:=⟨2,24,[.tmp 4],q4x⟩
theorem q9M:FOK Tryz.prog 102 q1J:=FOK.of [] Tryz.func102 (by kernel_rfl) (by kernel_rfl)
def q6E:q0f:=(.seq (.ops [⟨some 4,m (c (.bool false)),none⟩]) (.seq (.ops [⟨some 5,m (t 1),none⟩,⟨some 6,.int .lss (t 5) (c (.int .i64 0)),none⟩,⟨some 7,m (t 6),none⟩,⟨some 8,m (t 1),some (7,false)⟩,⟨some 9,m (t 0),some (7,false)⟩,⟨some 10,.nilChk (t 9),some (7,false)⟩,⟨some 11,.faddr (t 10) 0,some (7,false)⟩,⟨some 12,.load (t 11) none,some (7,false)⟩,⟨some 13,.len false (t 12),some (7,false)⟩,⟨some 14,.int .geq (t 8) (t 13),some (7,false)⟩,⟨some 15,.pick (t 7) (c (.bool true)) (t 14),none⟩,⟨some 16,m (t 15),none⟩,⟨some 17,m (t 0),some (16,false)⟩,⟨some 18,.nilChk (t 17),some (16,false)⟩,⟨some 19,.faddr (t 18) 0,some (16,false)⟩,⟨some 20,.load (t 19) none,some (16,false)⟩,⟨some 21,m (t 1),some (16,false)⟩,⟨some 22,.iaddr (t 20) (t 21) 4,some (16,false)⟩,⟨some 23,.faddr (t 22) 1,some (16,false)⟩,⟨some 24,.load (t 23) none,some (16,false)⟩,⟨some 25,.int .eql (t 24) (c (.int .i64 0)),some (16,false)⟩,⟨some 26,.pick (t 16) (c (.bool true)) (t 25),none⟩,⟨some 4,m (t 26),none⟩]) .ret))
def q3k:q0h:=⟨2,27,[.tmp 4],q6E⟩
theorem q9N:FOK Tryz.prog 103 q3k:=FOK.of [] Tryz.func103 (by kernel_rfl) (by kernel_rfl)
def q9O:q0f:=(.seq (.ops [⟨some 0,.alloc [(.int .i64 0),(.int .i64 0),(.int .i64 0),(.int .i64 0),(.int .i64 0),(.int .i64 0),(.int .i64 0),(.int .i64 0),(.int .i64 0),(.int .i64 0),(.int .i64 0),(.int .i64 0),(.int .i64 0),(.int .i64 0),(.int .i64 0),(.int .i64 0),(.int .i64 0),(.int .i64 0),(.int .i64 0),(.int .i64 0),(.int .i64 0),(.int .i64 0),(.int .i64 0),(.int .i64 0),(.int .i64 0),(.int .i64 0),(.int .i64 0),(.int .i64 0),(.int .i64 0),(.int .i64 0),(.int .i64 0),(.int .i64 0),(.int .i64 0),(.int .i64 0),(.int .i64 0),(.int .i64 0),(.int .i64 0),(.int .i64 0),(.int .i64 0),(.int .i64 0),(.int .i64 0),(.int .i64 0),(.int .i64 0),(.int .i64 0),(.int .i64 0),(.int .i64 0),(.int .i64 0),(.int .i64 0),(.int .i64 0),(.int .i64 0),(.int .i64 0),(.int .i64 0),(.int .i64 0),(.int .i64 0),(.int .i64 0),(.int .i64 0),(.int .i64 0),(.int .i64 0),(.int .i64 0),(.int .i64 0),(.int .i64 0),(.int .i64 0),(.int .i64 0),(.int .i64 0),(.int .i64 0),(.int .i64 0),(.int .i64 0),(.int .i64 0),(.int .i64 0),(.int .i64 0),(.int .i64 0),(.int .i64 0),(.int .i64 0),(.int .i64 0),(.int .i64 0),(.int .i64 0),(.int .i64 0),(.int .i64 0),(.int .i64 0),(.int .i64 0),(.int .i64 0),(.int .i64 0),(.int .i64 0),(.int .i64 0),(.int .i64 0),(.int .i64 0),(.int .i64 0),(.int .i64 0),(.int .i64 0),(.int .i64 0),(.int .i64 0),(.int .i64 0),(.int .i64 0),(.int .i64 0),(.int .i64 0),(.int .i64 0),(.int .i64 0),(.int .i64 0),(.int .i64 0),(.int .i64 0),(.int .i64 0),(.int .i64 0),(.int .i64 0),(.int .i64 0),(.int .i64 0),(.int .i64 0),(.int .i64 0),(.int .i64 0),(.int .i64 0),(.int .i64 0),(.int .i64 0),(.int .i64 0),(.int .i64 0),(.int .i64 0),(.int .i64 0),(.int .i64 0),(.int .i64 0),(.int .i64 0),(.int .i64 0),(.int .i64 0),(.int .i64 0),(.int .i64 0),(.int .i64 0),(.int .i64 0),(.int .i64 0),(.int .i64 0),(.int .i64 0),(.int .i64 0)] 202,none⟩]) (.seq (.ops [⟨some 1,.build [(.int .i64 0),(.int .i64 0),(.int .i64 0),(.int .i64 0),(.int .i64 0),(.int .i64 0),(.int .i64 0),(.int .i64 0),(.int .i64 0),(.int .i64 0),(.int .i64 0),(.int .i64 0),(.int .i64 0),(.int .i64 0),(.int .i64 0),(.int .i64 0),(.int .i64 0),(.int .i64 0),(.int .i64 0),(.int .i64 0),(.int .i64 0),(.int .i64 0),(.int .i64 0),(.int .i64 0),(.int .i64 0),(.int .i64 0),(.int .i64 0),(.int .i64 0),(.int .i64 0),(.int .i64 0),(.int .i64 0),(.int .i64 0),(.int .i64 0),(.int .i64 0),(.int .i64 0),(.int .i64 0),(.int .i64 0),(.int .i64 0),(.int .i64 0),(.int .i64 0),(.int .i64 0),(.int .i64 0),(.int .i64 0),(.int .i64 0),(.int .i64 0),(.int .i64 0),(.int .i64 0),(.int .i64 0),(.int .i64 0),(.int .i64 0),(.int .i64 0),(.int .i64 0),(.int .i64 0),(.int .i64 0),(.int .i64 0),(.int .i64 0),(.int .i64 0),(.int .i64 0),(.int .i64 0),(.int .i64 0),(.int .i64 0),(.int .i64 0),(.int .i64 0),(.int .i64 0),(.int .i64 0),(.int .i64 0),(.int .i64 0),(.int .i64 0),(.int .i64 0),(.int .i64 0),(.int .i64 0),(.int .i64 0),(.int .i64 0),(.int .i64 0),(.int .i64 0),(.int .i64 0),(.int .i64 0),(.int .i64 0),(.int .i64 0),(.int .i64 0),(.int .i64 0),(.int .i64 0),(.int .i64 0),(.int .i64 0),(.int .i64 0),(.int .i64 0),(.int .i64 0),(.int .i64 0),(.int .i64 0),(.int .i64 0),(.int .i64 0),(.int .i64 0),(.int .i64 0),(.int .i64 0),(.int .i64 0),(.int .i64 0),(.int .i64 0),(.int .i64 0),(.int .i64 0),(.int .i64 0),(.int .i64 0),(.int .i64 0),(.int .i64 0),(.int .i64 0),(.int .i64 0),(.int .i64 0),(.int .i64 0),(.int .i64 0),(.int .i64 0),(.int .i64 0),(.int .i64 0),(.int .i64 0),(.int .i64 0),(.int .i64 0),(.int .i64 0),(.int .i64 0),(.int .i64 0),(.int .i64 0),(.int .i64 0),(.int .i64 0),(.int .i64 0),(.int .i64 0),(.int .i64 0),(.int .i64 0),(.int .i64 0),(.int .i64 0),(.int .i64 0),(.int .i64 0)] [(0,1,(.const (.int .i64 7840))),(1,1,(.const (.int .i64 7854))),(2,1,(.const (.int .i64 7856))),(3,1,(.const (.int .i64 7862))),(4,1,(.const (.int .i64 7844))),(5,1,(.const (.int .i64 7846))),(6,1,(.const (.int .i64 7848))),(7,1,(.const (.int .i64 7852))),(8,1,(.const (.int .i64 7868))),(9,1,(.const (.int .i64 7864))),(10,1,(.const (.int .i64 7870))),(11,1,(.const (.int .i64 7872))),(12,1,(.const (.int .i64 7874))),(13,1,(.const (.int .i64 7876))),(14,1,(.const (.int .i64 7878))),(15,1,(.const (.int .i64 7888))),(16,1,(.const (.int .i64 7890))),(17,1,(.const (.int .i64 7892))),(18,1,(.const (.int .i64 7894))),(19,1,(.const (.int .i64 7896))),(20,1,(.const (.int .i64 7906))),(21,1,(.const (.int .i64 7898))),(22,1,(.const (.int .i64 7900))),(23,1,(.const (.int .i64 7902))),(24,1,(.const (.int .i64 7882))),(25,1,(.const (.int .i64 7886))),(26,1,(.const (.int .i64 7884))),(27,1,(.const (.int .i64 7880))),(28,1,(.const (.int .i64 7910))),(29,1,(.const (.int .i64 360))),(30,1,(.const (.int .i64 7908))),(31,1,(.const (.int .i64 7922))),(32,1,(.const (.int .i64 213))),(33,1,(.const (.int .i64 7855))),(34,1,(.const (.int .i64 7857))),(35,1,(.const (.int .i64 7863))),(36,1,(.const (.int .i64 7845))),(37,1,(.const (.int .i64 7847))),(38,1,(.const (.int .i64 7849))),(39,1,(.const (.int .i64 7853))),(40,1,(.const (.int .i64 7869))),(41,1,(.const (.int .i64 7865))),(42,1,(.const (.int .i64 7871))),(43,1,(.const (.int .i64 7873))),(44,1,(.const (.int .i64 7875))),(45,1,(.const (.int .i64 7877))),(46,1,(.const (.int .i64 7879))),(47,1,(.const (.int .i64 7889))),(48,1,(.const (.int .i64 7891))),(49,1,(.const (.int .i64 7893))),(50,1,(.const (.int .i64 7895))),(51,1,(.const (.int .i64 7904))),(52,1,(.const (.int .i64 416))),(53,1,(.const (.int .i64 7897))),(54,1,(.const (.int .i64 7901))),(55,1,(.const (.int .i64 7903))),(56,1,(.const (.int .i64 7883))),(57,1,(.const (.int .i64 7920))),(58,1,(.const (.int .i64 7912))),(59,1,(.const (.int .i64 7914))),(60,1,(.const (.int .i64 7916))),(61,1,(.const (.int .i64 417))),(62,1,(.const (.int .i64 7899))),(63,1,(.const (.int .i64 431))),(64,1,(.const (.int .i64 192))),(65,1,(.const (.int .i64 193))),(66,1,(.const (.int .i64 194))),(67,1,(.const (.int .i64 195))),(68,1,(.const (.int .i64 7842))),(69,1,(.const (.int .i64 258))),(70,1,(.const (.int .i64 7859))),(71,1,(.const (.int .i64 7861))),(72,1,(.const (.int .i64 200))),(73,1,(.const (.int .i64 201))),(74,1,(.const (.int .i64 202))),(75,1,(.const (.int .i64 7866))),(76,1,(.const (.int .i64 204))),(77,1,(.const (.int .i64 205))),(78,1,(.const (.int .i64 296))),(79,1,(.const (.int .i64 7923))),(80,1,(.const (.int .i64 272))),(81,1,(.const (.int .i64 7913))),(82,1,(.const (.int .i64 210))),(83,1,(.const (.int .i64 211))),(84,1,(.const (.int .i64 212))),(85,1,(.const (.int .i64 7841))),(86,1,(.const (.int .i64 7927))),(87,1,(.const (.int .i64 7915))),(88,1,(.const (.int .i64 7917))),(89,1,(.const (.int .i64 217))),(90,1,(.const (.int .i64 218))),(91,1,(.const (.int .i64 7929))),(92,1,(.const (.int .i64 7925))),(93,1,(.const (.int .i64 221))),(94,1,(.const (.int .i64 7905))),(95,1,(.const (.int .i64 432))),(96,1,(.const (.int .i64 224))),(97,1,(.const (.int .i64 225))),(98,1,(.const (.int .i64 226))),(99,1,(.const (.int .i64 227))),(100,1,(.const (.int .i64 7843))),(101,1,(.const (.int .i64 259))),(102,1,(.const (.int .i64 7919))),(103,1,(.const (.int .i64 7851))),(104,1,(.const (.int .i64 232))),(105,1,(.const (.int .i64 233))),(106,1,(.const (.int .i64 234))),(107,1,(.const (.int .i64 7867))),(108,1,(.const (.int .i64 236))),(109,1,(.const (.int .i64 237))),(110,1,(.const (.int .i64 297))),(111,1,(.const (.int .i64 7881))),(112,1,(.const (.int .i64 273))),(113,1,(.const (.int .i64 7921))),(114,1,(.const (.int .i64 242))),(115,1,(.const (.int .i64 243))),(116,1,(.const (.int .i64 244))),(117,1,(.const (.int .i64 245))),(118,1,(.const (.int .i64 7887))),(119,1,(.const (.int .i64 7885))),(120,1,(.const (.int .i64 7909))),(121,1,(.const (.int .i64 249))),(122,1,(.const (.int .i64 250))),(123,1,(.const (.int .i64 361))),(124,1,(.const (.int .i64 7911))),(125,1,(.const (.int .i64 253))),(126,1,(.const (.int .i64 7907))),(127,1,(.const (.int .i64 7918)))],none⟩,⟨none,.store (t 0) (t 1) 128,none⟩]) .ret))
def q5u:q0h:=⟨0,2,[.cell 0 (some 128)],q9O⟩
theorem k3x:FOK Tryz.prog 107 q5u:=FOK.of [] Tryz.func107 (by kernel_rfl) (by kernel_rfl)
def k8F:q0f:=(.seq (.ops [⟨some 0,m (c (.slice none 0 0)),none⟩]) (.seq (.ops [⟨some 1,.build [(.int .i64 0),(.int .i64 0),(.int .i64 0),(.int .i64 0),(.int .i64 0),(.int .i64 0)] [(0,1,(.const (.int .i64 97))),(1,1,(.const (.int .i64 224))),(2,1,(.const (.int .i64 225))),(3,1,(.const (.int .i64 7843))),(4,1,(.const (.int .i64 227))),(5,1,(.const (.int .i64 7841)))],none⟩,⟨some 2,.build [(.int .i64 0),(.int .i64 0),(.int .i64 0),(.int .i64 0),(.int .i64 0),(.int .i64 0),(.int .i64 0),(.int .i64 0)] [(0,1,(.const (.int .i64 97))),(1,1,(.const (.int .i64 0))),(2,6,(t 1))],none⟩,⟨some 3,.build [(.int .i64 0),(.int .i64 0),(.int .i64 0),(.int .i64 0),(.int .i64 0),(.int .i64 0)] [(0,1,(.const (.int .i64 259))),(1,1,(.const (.int .i64 7857))),(2,1,(.const (.int .i64 7855))),(3,1,(.const (.int .i64 7859))),(4,1,(.const (.int .i64 7861))),(5,1,(.const (.int .i64 7863)))],none⟩,⟨some 4,.build [(.int .i64 0),(.int .i64 0),(.int .i64 0),(.int .i64 0),(.int .i64 0),(.int .i64 0),(.int .i64 0),(.int .i64 0)] [(0,1,(.const (.int .i64 97))),(1,1,(.const (.int .i64 1))),(2,6,(t 3))],none⟩,⟨some 5,.build [(.int .i64 0),(.int .i64 0),(.int .i64 0),(.int .i64 0),(.int .i64 0),(.int .i64 0)] [(0,1,(.const (.int .i64 226))),(1,1,(.const (.int .i64 7847))),(2,1,(.const (.int .i64 7845))),(3,1,(.const (.int .i64 7849))),(4,1,(.const (.int .i64 7851))),(5,1,(.const (.int .i64 7853)))],none⟩,⟨some 6,.build [(.int .i64 0),(.int .i64 0),(.int .i64 0),(.int .i64 0),(.int .i64 0),(.int .i64 0),(.int .i64 0),(.int .i64 0)] [(0,1,(.const (.int .i64 97))),(1,1,(.const (.int .i64 2))),(2,6,(t 5))],none⟩,⟨some 7,.build [(.int .i64 0),(.int .i64 0),(.int .i64 0),(.int .i64 0),(.int .i64 0),(.int .i64 0)] [(0,1,(.const (.int .i64 101))),(1,1,(.const (.int .i64 232))),(2,1,(.const (.int .i64 233))),(3,1,(.const (.int .i64 7867))),(4,1,(.const (.int .i64 7869))),(5,1,(.const (.int .i64 7865)))],none⟩,⟨some 8,.build [(.int .i64 0),(.int .i64 0),(.int .i64 0),(.int .i64 0),(.int .i64 0),(.int .i64 0),(.int .i64 0),(.int .i64 0)] [(0,1,(.const (.int .i64 101))),(1,1,(.const (.int .i64 0))),(2,6,(t 7))],none⟩,⟨some 9,.build [(.int .i64 0),(.int .i64 0),(.int .i64 0),(.int .i64 0),(.int .i64 0),(.int .i64 0)] [(0,1,(.const (.int .i64 234))),(1,1,(.const (.int .i64 7873))),(2,1,(.const (.int .i64 7871))),(3,1,(.const (.int .i64 7875))),(4,1,(.const (.int .i64 7877))),(5,1,(.const (.int .i64 7879)))],none⟩,⟨some 10,.build [(.int .i64 0),(.int .i64 0),(.int .i64 0),(.int .i64 0),(.int .i64 0),(.int .i64 0),(.int .i64 0),(.int .i64 0)] [(0,1,(.const (.int .i64 101))),(1,1,(.const (.int .i64 2))),(2,6,(t 9))],none⟩,⟨some 11,.build [(.int .i64 0),(.int .i64 0),(.int .i64 0),(.int .i64 0),(.int .i64 0),(.int .i64 0)] [(0,1,(.const (.int .i64 105))),(1,1,(.const (.int .i64 236))),(2,1,(.const (.int .i64 237))),(3,1,(.const (.int .i64 7881))),(4,1,(.const (.int .i64 297))),(5,1,(.const (.int .i64 7883)))],none⟩,⟨some 12,.build [(.int .i64 0),(.int .i64 0),(.int .i64 0),(.int .i64 0),(.int .i64 0),(.int .i64 0),(.int .i64 0),(.int .i64 0)] [(0,1,(.const (.int .i64 105))),(1,1,(.const (.int .i64 0))),(2,6,(t 11))],none⟩,⟨some 13,.build [(.int .i64 0),(.int .i64 0),(.int .i64 0),(.int .i64 0),(.int .i64 0),(.int .i64 0)] [(0,1,(.const (.int .i64 111))),(1,1,(.const (.int .i64 242))),(2,1,(.const (.int .i64 243))),(3,1,(.const (.int .i64 7887))),(4,1,(.const (.int .i64 245))),(5,1,(.const (.int .i64 7885)))],none⟩,⟨some 14,.build [(.int .i64 0),(.int .i64 0),(.int .i64 0),(.int .i64 0),(.int .i64 0),(.int .i64 0),(.int .i64 0),(.int .i64 0)] [(0,1,(.const (.int .i64 111))),(1,1,(.const (.int .i64 0))),(2,6,(t 13))],none⟩,⟨some 15,.build [(.int .i64 0),(.int .i64 0),(.int .i64 0),(.int .i64 0),(.int .i64 0),(.int .i64 0)] [(0,1,(.const (.int .i64 244))),(1,1,(.const (.int .i64 7891))),(2,1,(.const (.int .i64 7889))),(3,1,(.const (.int .i64 7893))),(4,1,(.const (.int .i64 7895))),(5,1,(.const (.int .i64 7897)))],none⟩,⟨some 16,.build [(.int .i64 0),(.int .i64 0),(.int .i64 0),(.int .i64 0),(.int .i64 0),(.int .i64 0),(.int .i64 0),(.int .i64 0)] [(0,1,(.const (.int .i64 111))),(1,1,(.const (.int .i64 2))),(2,6,(t 15))],none⟩,⟨some 17,.build [(.int .i64 0),(.int .i64 0),(.int .i64 0),(.int .i64 0),(.int .i64 0),(.int .i64 0)] [(0,1,(.const (.int .i64 417))),(1,1,(.const (.int .i64 7901))),(2,1,(.const (.int .i64 7899))),(3,1,(.const (.int .i64 7903))),(4,1,(.const (.int .i64 7905))),(5,1,(.const (.int .i64 7907)))],none⟩,⟨some 18,.build [(.int .i64 0),(.int .i64 0),(.int .i64 0),(.int .i64 0),(.int .i64 0),(.int .i64 0),(.int .i64 0),(.int .i64 0)] [(0,1,(.const (.int .i64 111))),(1,1,(.const (.int .i64 3))),(2,6,(t 17))],none⟩,⟨some 19,.build [(.int .i64 0),(.int .i64 0),(.int .i64 0),(.int .i64 0),(.int .i64 0),(.int .i64 0)] [(0,1,(.const (.int .i64 117))),(1,1,(.const (.int .i64 249))),(2,1,(.const (.int .i64 250))),(3,1,(.const (.int .i64 7911))),(4,1,(.const (.int .i64 361))),(5,1,(.const (.int .i64 7909)))],none⟩,⟨some 20,.build [(.int .i64 0),(.int .i64 0),(.int .i64 0),(.int .i64 0),(.int .i64 0),(.int .i64 0),(.int .i64 0),(.int .i64 0)] [(0,1,(.const (.int .i64 117))),(1,1,(.const (.int .i64 0))),(2,6,(t 19))],none⟩,⟨some 21,.build [(.int .i64 0),(.int .i64 0),(.int .i64 0),(.int .i64 0),(.int .i64 0),(.int .i64 0)] [(0,1,(.const (.int .i64 432))),(1,1,(.const (.int .i64 7915))),(2,1,(.const (.int .i64 7913))),(3,1,(.const (.int .i64 7917))),(4,1,(.const (.int .i64 7919))),(5,1,(.const (.int .i64 7921)))],none⟩,⟨some 22,.build [(.int .i64 0),(.int .i64 0),(.int .i64 0),(.int .i64 0),(.int .i64 0),(.int .i64 0),(.int .i64 0),(.int .i64 0)] [(0,1,(.const (.int .i64 117))),(1,1,(.const (.int .i64 3))),(2,6,(t 21))],none⟩,⟨some 23,.build [(.int .i64 0),(.int .i64 0),(.int .i64 0),(.int .i64 0),(.int .i64 0),(.int .i64 0)] [(0,1,(.const (.int .i64 121))),(1,1,(.const (.int .i64 7923))),(2,1,(.const (.int .i64 253))),(3,1,(.const (.int .i64 7927))),(4,1,(.const (.int .i64 7929))),(5,1,(.const (.int .i64 7925)))],none⟩,⟨some 24,.build [(.int .i64 0),(.int .i64 0),(.int .i64 0),(.int .i64 0),(.int .i64 0),(.int .i64 0),(.int .i64 0),(.int .i64 0)] [(0,1,(.const (.int .i64 121))),(1,1,(.const (.int .i64 0))),(2,6,(t 23))],none⟩,⟨some 25,.build [(.int .i64 0),(.int .i64 0),(.int .i64 0),(.int .i64 0),(.int .i64 0),(.int .i64 0)] [(0,1,(.const (.int .i64 100)))],none⟩,⟨some 26,.build [(.int .i64 0),(.int .i64 0),(.int .i64 0),(.int .i64 0),(.int .i64 0),(.int .i64 0),(.int .i64 0),(.int .i64 0)] [(0,1,(.const (.int .i64 100))),(1,1,(.const (.int .i64 0))),(2,6,(t 25))],none⟩,⟨some 27,.build [(.int .i64 0),(.int .i64 0),(.int .i64 0),(.int .i64 0),(.int .i64 0),(.int .i64 0)] [(0,1,(.const (.int .i64 273)))],none⟩,⟨some 28,.build [(.int .i64 0),(.int .i64 0),(.int .i64 0),(.int .i64 0),(.int .i64 0),(.int .i64 0),(.int .i64 0),(.int .i64 0)] [(0,1,(.const (.int .i64 100))),(1,1,(.const (.int .i64 4))),(2,6,(t 27))],none⟩,⟨some 29,.bslice 209 14 8 [(.int .i64 0),(.int .i64 0),(.int .i64 0),(.int .i64 0),(.int .i64 0),(.int .i64 0),(.int .i64 0),(.int .i64 0)] [(0,8,(t 2)),(8,8,(t 4)),(16,8,(t 6)),(24,8,(t 8)),(32,8,(t 10)),(40,8,(t 12)),(48,8,(t 14)),(56,8,(t 16)),(64,8,(t 18)),(72,8,(t 20)),(80,8,(t 22)),(88,8,(t 24)),(96,8,(t 26)),(104,8,(t 28))],none⟩,⟨some 0,m (t 29),none⟩]) .ret))
def k2q:q0h:=⟨0,30,[.tmp 0],k8F⟩
theorem k6P:FOK Tryz.prog 108 k2q:=FOK.of [] Tryz.func108 (by kernel_rfl) (by kernel_rfl)
def k0V:q0f:=(.seq (.ops [⟨some 2,m (c (.int .i64 0)),none⟩]) (.seq (.block 0 (.seq (.ops [⟨some 4,m (t 0),none⟩,⟨some 5,.int .lss (t 4) (c (.int .i64 256)),none⟩,⟨some 3,m (t 5),none⟩]) (.cond (t 3) (.seq (.ops [⟨some 6,m (t 0),none⟩,⟨some 7,.int .sub (t 6) (c (.int .i64 32)),none⟩,⟨some 2,m (t 7),none⟩]) .ret) .skip))) (.seq (.ops [⟨some 8,m (t 0),none⟩,⟨some 9,.int .sub (t 8) (c (.int .i64 1)),none⟩,⟨some 2,m (t 9),none⟩]) .ret)))
def q6c:q0h:=⟨1,10,[.tmp 2],k0V⟩
theorem k5o:FOK Tryz.prog 109 q6c:=FOK.of [] Tryz.func109 (by kernel_rfl) (by kernel_rfl)
def q5v : q0f := (.seq (.ops [⟨some 15,.int .lss (t 14) (t 13),none⟩]) (.seq (.cond (t 15) .skip (.exit 0)) (.seq (.block 1 (.seq (.ops [⟨some 16,m (t 14),none⟩,⟨some 17,.iaddr (t 12) (t 14) 2,none⟩,⟨some 18,.load (t 17) (some 2),none⟩,⟨some 7,.alloc [(.int .i64 0),(.complex .f64 0 0)] 154,none⟩,⟨some 6,m (t 16),none⟩,⟨none,.store (t 7) (t 18) 2,none⟩]) (.seq (.ops [⟨some 19,.load (t 7) (some 2),none⟩,⟨some 20,.load (t 1) (some 2),none⟩,⟨some 21,.gen ⟨none,(.binOp .eql 154 (t 19) (t 20) 154),4,"",#[],none⟩,none⟩]) (.cond (t 21) (.seq (.ops [⟨some 22,m (t 5),none⟩,⟨some 23,m (t 6),none⟩,⟨some 24,.iaddr (t 22) (t 23) 1,none⟩,⟨some 25,.load (t 24) none,none⟩,⟨some 2,m (t 25),none⟩,⟨some 3,m (c (.bool true)),none⟩]) .ret) .skip)))) (.ops [⟨some 26,.int .add (t 14) (c (.int .i64 1)),none⟩,⟨some 14,m (t 26),none⟩]))))
def k2r:q0f:=(.seq (.ops [⟨some 1,.box (t 0) 154,none⟩,⟨some 2,m (c (.int .i64 0)),none⟩,⟨some 3,m (c (.bool false)),none⟩]) (.seq (.ops [⟨some 9,.call (.func 84) [],none⟩,⟨some 8,m (t 9),none⟩,⟨some 10,.ext (t 8) 0,none⟩,⟨some 11,.ext (t 8) 1,none⟩,⟨some 4,m (t 10),none⟩,⟨some 5,m (t 11),none⟩]) (.seq (.seq (.ops [⟨some 12,m (t 4),none⟩,⟨some 13,.len false (t 12),none⟩,⟨some 14,m (c (.int .i64 0)),none⟩]) (.block 0 (.loop [1,5,12,13,14] q5v))) (.seq (.ops [⟨some 2,m (c (.int .i64 0)),none⟩,⟨some 3,m (c (.bool false)),none⟩]) .ret))))
def q7f:q0h:=⟨1,27,[.tmp 2,.tmp 3],k2r⟩
theorem k6Q:FOK Tryz.prog 110 q7f:=FOK.of [[1,5,12,13,14]] Tryz.func110 (by kernel_rfl) (by kernel_rfl)
def k8G:q0f:=(.seq (.ops [⟨some 2,m (c (.int .i64 0)),none⟩]) (.seq (.seq (.ops [⟨some 3,m (t 0),none⟩]) (.block 0 (.seq (.ops [⟨some 5,.int .eql (t 3) (c (.int .i64 236)),none⟩,⟨some 4,m (t 5),none⟩]) (.cond (t 4) (.seq (.ops [⟨some 2,m (c (.int .i64 236)),none⟩]) .ret) (.seq (.ops [⟨some 7,.int .eql (t 3) (c (.int .i64 237)),none⟩,⟨some 6,m (t 7),none⟩]) (.cond (t 6) (.seq (.ops [⟨some 2,m (c (.int .i64 237)),none⟩]) .ret) (.seq (.ops [⟨some 9,.int .eql (t 3) (c (.int .i64 7881)),none⟩,⟨some 8,m (t 9),none⟩]) (.cond (t 8) (.seq (.ops [⟨some 2,m (c (.int .i64 230)),none⟩]) .ret) (.seq (.ops [⟨some 11,.int .eql (t 3) (c (.int .i64 297)),none⟩,⟨some 10,m (t 11),none⟩]) (.cond (t 10) (.seq (.ops [⟨some 2,m (c (.int .i64 243)),none⟩]) .ret) (.seq (.ops [⟨some 13,.int .eql (t 3) (c (.int .i64 7883)),none⟩,⟨some 12,m (t 13),none⟩]) (.cond (t 12) (.seq (.ops [⟨some 2,m (c (.int .i64 242)),none⟩]) .ret) (.seq (.ops [⟨some 15,.int .eql (t 3) (c (.int .i64 7925)),none⟩,⟨some 14,m (t 15),none⟩]) (.cond (t 14) (.seq (.ops [⟨some 2,m (c (.int .i64 238)),none⟩]) .ret) (.seq (.ops [⟨some 17,.int .eql (t 3) (c (.int .i64 273)),none⟩,⟨some 16,m (t 17),none⟩]) (.cond (t 16) (.seq (.ops [⟨some 2,m (c (.int .i64 241)),none⟩]) .ret) .skip)))))))))))))))) (.seq (.ops [⟨some 2,m (c (.int .i64 0)),none⟩]) .ret)))
def k2s:q0h:=⟨1,18,[.tmp 2],k8G⟩
theorem k6R:FOK Tryz.prog 111 k2s:=FOK.of [] Tryz.func111 (by kernel_rfl) (by kernel_rfl)
def k8H:q0f:=(.seq (.ops [⟨some 2,.alloc [(.int .i64 0),(.int .i64 0),(.int .i64 0),(.int .i64 0),(.int .i64 0),(.int .i64 0)] 207,none⟩]) (.seq (.seq (.ops [⟨some 3,m (t 0),none⟩]) (.block 0 (.seq (.ops [⟨some 5,.int .eql (t 3) (c (.int .i64 1)),none⟩,⟨some 4,m (t 5),none⟩]) (.cond (t 4) (.seq (.ops [⟨some 6,.build [(.int .i64 0),(.int .i64 0),(.int .i64 0),(.int .i64 0),(.int .i64 0),(.int .i64 0)] [(0,1,(.const (.int .i64 234))),(1,1,(.const (.int .i64 232))),(2,1,(.const (.int .i64 233))),(3,1,(.const (.int .i64 250))),(4,1,(.const (.int .i64 252))),(5,1,(.const (.int .i64 235)))],none⟩,⟨none,.store (t 2) (t 6) 6,none⟩]) .ret) (.seq (.ops [⟨some 8,.int .eql (t 3) (c (.int .i64 2)),none⟩,⟨some 7,m (t 8),none⟩]) (.cond (t 7) (.seq (.ops [⟨some 9,.build [(.int .i64 0),(.int .i64 0),(.int .i64 0),(.int .i64 0),(.int .i64 0),(.int .i64 0)] [(0,1,(.const (.int .i64 226))),(1,1,(.const (.int .i64 224))),(2,1,(.const (.int .i64 225))),(3,1,(.const (.int .i64 229))),(4,1,(.const (.int .i64 227))),(5,1,(.const (.int .i64 228)))],none⟩,⟨none,.store (t 2) (t 9) 6,none⟩]) .ret) .skip)))))) (.seq (.ops [⟨some 10,.build [(.int .i64 0),(.int .i64 0),(.int .i64 0),(.int .i64 0),(.int .i64 0),(.int .i64 0)] [(0,1,(.const (.int .i64 0))),(1,1,(.const (.int .i64 248))),(2,1,(.const (.int .i64 249))),(3,1,(.const (.int .i64 251))),(4,1,(.const (.int .i64 245))),(5,1,(.const (.int .i64 239)))],none⟩,⟨none,.store (t 2) (t 10) 6,none⟩]) .ret)))
def k2t:q0h:=⟨1,11,[.cell 2 (some 6)],k8H⟩
theorem k6S:FOK Tryz.prog 112 k2t:=FOK.of [] Tryz.func112 (by kernel_rfl) (by kernel_rfl)
def k2u:q0f:=(.seq (.ops [⟨some 2,m (c (.bool false)),none⟩]) (.seq (.ops [⟨some 3,m (t 0),none⟩,⟨some 4,.len false (t 3),none⟩,⟨some 5,.int .gtr (t 4) (c (.int .i64 0)),none⟩,⟨some 6,m (t 5),none⟩,⟨some 7,m (t 0),some (6,true)⟩,⟨some 8,.len false (t 7),some (6,true)⟩,⟨some 9,.int .leq (t 8) (c (.int .i64 8)),some (6,true)⟩,⟨some 10,.pick (t 6) (t 9) (c (.bool false)),none⟩,⟨some 11,m (t 10),none⟩,⟨some 12,m (t 0),some (11,true)⟩,⟨some 13,.call (.func 130) [(t 12),(.func 131)],some (11,true)⟩,⟨some 14,.not (t 13),some (11,true)⟩,⟨some 15,.pick (t 11) (t 14) (c (.bool false)),none⟩,⟨some 2,m (t 15),none⟩]) .ret))
def q7g:q0h:=⟨1,16,[.tmp 2],k2u⟩
theorem k6T:FOK Tryz.prog 113 q7g:=FOK.of [] Tryz.func113 (by kernel_rfl) (by kernel_rfl)
def q2H:q0f:=(.seq (.ops [⟨some 9,.int .lss (t 8) (t 7),none⟩]) (.seq (.cond (t 9) .skip (.exit 0)) (.seq (.block 1 (.seq (.ops [⟨some 10,m (t 8),none⟩,⟨some 5,m (t 10),none⟩]) (.seq (.ops [⟨some 11,m (t 1),none⟩,⟨some 12,m (t 0),none⟩,⟨some 13,m (t 5),none⟩,⟨some 14,.iaddr (t 12) (t 13) 2,none⟩,⟨some 15,.load (t 14) (some 2),none⟩,⟨some 16,.call (t 11) [(t 15)],none⟩]) (.cond (t 16) (.seq (.ops [⟨some 17,m (t 5),none⟩,⟨some 4,m (t 17),none⟩]) .ret) .skip)))) (.ops [⟨some 18,.int .add (t 8) (c (.int .i64 1)),none⟩,⟨some 8,m (t 18),none⟩]))))
def q9b:q0f:=(.seq (.ops [⟨some 4,m (c (.int .i64 0)),none⟩]) (.seq (.seq (.ops [⟨some 6,m (t 0),none⟩,⟨some 7,.len false (t 6),none⟩,⟨some 8,m (c (.int .i64 0)),none⟩]) (.block 0 (.loop [0,1,7,8] q2H))) (.seq (.ops [⟨some 4,m (c (.int .i64 (-1))),none⟩]) .ret)))
def q4y:q0h:=⟨2,19,[.tmp 4],q9b⟩
theorem k6U:FOK Tryz.prog 114 q4y:=FOK.of [[0,1,7,8]] Tryz.func114 (by kernel_rfl) (by kernel_rfl)
def q9P:q0f:=(.seq (.ops [⟨some 2,.box (t 0) 127,none⟩,⟨some 3,m (c (.bool false)),none⟩]) (.seq (.ops [⟨some 4,.faddr (t 2) 0,none⟩,⟨some 5,.load (t 4) none,none⟩,⟨some 6,.load (t 1) none,none⟩,⟨some 7,.call (.func 116) [(t 5),(t 6)],none⟩,⟨some 3,m (t 7),none⟩]) .ret))
def q5w:q0h:=⟨2,8,[.tmp 3],q9P⟩
theorem k3y:FOK Tryz.prog 115 q5w:=FOK.of [] Tryz.func115 (by kernel_rfl) (by kernel_rfl)
def q1d:q0f:=(.seq (.ops [⟨some 14,.int .lss (t 13) (t 12),none⟩]) (.seq (.cond (t 14) .skip (.exit 0)) (.seq (.block 1 (.seq (.ops [⟨some 15,m (t 13),none⟩,⟨some 5,m (t 15),none⟩]) (.seq (.draw [⟨some 16,m (t 0),none⟩,⟨some 17,m (t 5),none⟩,⟨some 18,.iaddr (t 16) (t 17) 1,none⟩,⟨some 19,.load (t 18) none,none⟩,⟨some 20,m (t 1),none⟩,⟨some 21,m (t 5),none⟩,⟨some 22,.iaddr (t 20) (t 21) 1,none⟩,⟨some 23,.load (t 22) none,none⟩,⟨some 24,.int .neq (t 19) (t 23),none⟩]) (.cond (t 24) (.seq (.ops [⟨some 4,m (c (.bool false)),none⟩]) .ret) .skip)))) (.ops [⟨some 25,.int .add (t 13) (c (.int .i64 1)),none⟩,⟨some 13,m (t 25),none⟩]))))
def q3s:q0f:=(.seq (.ops [⟨some 4,m (c (.bool false)),none⟩]) (.seq (.seq (.ops [⟨some 6,m (t 0),none⟩,⟨some 7,.len false (t 6),none⟩,⟨some 8,m (t 1),none⟩,⟨some 9,.len false (t 8),none⟩,⟨some 10,.int .neq (t 7) (t 9),none⟩]) (.cond (t 10) (.seq (.ops [⟨some 4,m (c (.bool false)),none⟩]) .ret) .skip)) (.seq (.seq (.ops [⟨some 11,m (t 0),none⟩,⟨some 12,.len false (t 11),none⟩,⟨some 13,m (c (.int .i64 0)),none⟩]) (.block 0 (.loop [0,1,12,13] q1d))) (.seq (.ops [⟨some 4,m (c (.bool true)),none⟩]) .ret))))
def q1m:q0h:=⟨2,26,[.tmp 4],q3s⟩
theorem q5T:FOK Tryz.prog 116 q1m:=FOK.of [[0,1,12,13],[0,1,2,3,4,5,6,7,8]] Tryz.func116 (by kernel_rfl) (by kernel_rfl)
def q8Q:q0f:=(.seq (.ops [⟨some 2,.box (t 0) 127,none⟩,⟨some 3,m (c (.bool false)),none⟩]) (.seq (.draw [⟨some 4,.faddr (t 2) 0,none⟩,⟨some 5,.load (t 4) none,none⟩,⟨some 6,.faddr (t 2) 0,none⟩,⟨some 7,.load (t 6) none,none⟩,⟨some 8,.len false (t 7),none⟩,⟨some 9,.int .sub (t 8) (c (.int .i64 1)),none⟩,⟨some 10,.iaddr (t 5) (t 9) 1,none⟩,⟨some 11,.load (t 10) none,none⟩,⟨some 12,.load (t 1) none,none⟩,⟨some 13,.int .eql (t 11) (t 12),none⟩,⟨some 3,m (t 13),none⟩]) .ret))
def q4M:q0h:=⟨2,14,[.tmp 3],q8Q⟩
theorem k2v:FOK Tryz.prog 118 q4M:=FOK.of [[0,1,2,3,4,5,6,7,8,9,10]] Tryz.func118 (by kernel_rfl) (by kernel_rfl)
def k5p:q0f:=(.seq (.ops [⟨some 2,m (c (.int .i64 0)),none⟩,⟨some 3,m (c (.bool false)),none⟩]) (.seq (.block 0 (.seq (.ops [⟨some 6,m (t 0),none⟩,⟨some 7,.int .geq (t 6) (c (.int .u8 161)),none⟩,⟨some 8,m (t 7),none⟩,⟨some 9,m (t 0),some (8,true)⟩,⟨some 10,.int .leq (t 9) (c (.int .u8 234)),some (8,true)⟩,⟨some 11,.pick (t 8) (t 10) (c (.bool false)),none⟩,⟨some 5,m (t 11),none⟩]) (.cond (t 5) (.seq (.ops [⟨some 12,.call (.func 137) [],none⟩,⟨some 13,m (t 0),none⟩,⟨some 14,.int .sub (t 13) (c (.int .u8 161)),none⟩,⟨some 15,.index (t 12) (t 14) 74 false 1,none⟩,⟨some 4,m (t 15),none⟩]) (.seq (.ops [⟨some 16,m (t 4),none⟩,⟨some 17,.max2 (c (.int .i64 0)) (t 16),none⟩,⟨some 18,m (t 4),none⟩,⟨some 19,.int .geq (t 18) (c (.int .i64 0)),none⟩,⟨some 2,m (t 17),none⟩,⟨some 3,m (t 19),none⟩]) .ret)) (.seq (.ops [⟨some 21,m (t 0),none⟩,⟨some 22,.int .geq (t 21) (c (.int .u8 241)),none⟩,⟨some 23,m (t 22),none⟩,⟨some 24,m (t 0),some (23,true)⟩,⟨some 25,.int .leq (t 24) (c (.int .u8 250)),some (23,true)⟩,⟨some 26,.pick (t 23) (t 25) (c (.bool false)),none⟩,⟨some 20,m (t 26),none⟩]) (.cond (t 20) (.seq (.ops [⟨some 27,m (t 0),none⟩,⟨some 28,.conv .i64 (t 27),none⟩,⟨some 29,.int .add (c (.int .i64 102)) (t 28),none⟩,⟨some 30,.int .sub (t 29) (c (.int .i64 241)),none⟩,⟨some 2,m (t 30),none⟩,⟨some 3,m (c (.bool true)),none⟩]) .ret) .skip))))) (.seq (.ops [⟨some 2,m (c (.int .i64 0)),none⟩,⟨some 3,m (c (.bool false)),none⟩]) .ret)))
def q9Q:q0h:=⟨1,31,[.tmp 2,.tmp 3],k5p⟩
theorem k3z:FOK Tryz.prog 126 q9Q:=FOK.of [] Tryz.func126 (by kernel_rfl) (by kernel_rfl)
def k5q:q0f:=(.seq (.ops [⟨some 0,m (c (.slice none 0 0)),none⟩]) (.seq (.ops [⟨some 1,.build [(.int .i64 0),(.int .i64 0)] [(0,1,(.const (.int .i64 161))),(1,1,(.const (.int .i64 80)))],none⟩,⟨some 2,.build [(.int .i64 0),(.int .i64 0)] [(0,1,(.const (.int .i64 166))),(1,1,(.const (.int .i64 12)))],none⟩,⟨some 3,.build [(.int .i64 0),(.int .i64 0)] [(0,1,(.const (.int .i64 167))),(1,1,(.const (.int .i64 97)))],none⟩,⟨some 4,.build [(.int .i64 0),(.int .i64 0)] [(0,1,(.const (.int .i64 170))),(1,1,(.const (.int .i64 96)))],none⟩,⟨some 5,.build [(.int .i64 0),(.int .i64 0)] [(0,1,(.const (.int .i64 179))),(1,1,(.const (.int .i64 88)))],none⟩,⟨some 6,.build [(.int .i64 0),(.int .i64 0)] [(0,1,(.const (.int .i64 180))),(1,1,(.const (.int .i64 89)))],none⟩,⟨some 7,.build [(.int .i64 0),(.int .i64 0)] [(0,1,(.const (.int .i64 181))),(1,1,(.const (.int .i64 90)))],none⟩,⟨some 8,.build [(.int .i64 0),(.int .i64 0)] [(0,1,(.const (.int .i64 186))),(1,1,(.const (.int .i64 91)))],none⟩,⟨some 9,.build [(.int .i64 0),(.int .i64 0)] [(0,1,(.const (.int .i64 191))),(1,1,(.const (.int .i64 92)))],none⟩,⟨some 10,.build [(.int .i64 0),(.int .i64 0)] [(0,1,(.const (.int .i64 192))),(1,1,(.const (.int .i64 93)))],none⟩,⟨some 11,.build [(.int .i64 0),(.int .i64 0)] [(0,1,(.const (.int .i64 201))),(1,1,(.const (.int .i64 94)))],none⟩,⟨some 12,.build [(.int .i64 0),(.int .i64 0)] [(0,1,(.const (.int .i64 219))),(1,1,(.const (.int .i64 98)))],none⟩,⟨some 13,.build [(.int .i64 0),(.int .i64 0)] [(0,1,(.const (.int .i64 220))),(1,1,(.const (.int .i64 99)))],none⟩,⟨some 14,.build [(.int .i64 0),(.int .i64 0)] [(0,1,(.const (.int .i64 223))),(1,1,(.const (.int .i64 68)))],none⟩,⟨some 15,.bslice 162 14 2 [(.int .i64 0),(.int .i64 0)] [(0,2,(t 1)),(2,2,(t 2)),(4,2,(t 3)),(6,2,(t 4)),(8,2,(t 5)),(10,2,(t 6)),(12,2,(t 7)),(14,2,(t 8)),(16,2,(t 9)),(18,2,(t 10)),(20,2,(t 11)),(22,2,(t 12)),(24,2,(t 13)),(26,2,(t 14))],none⟩,⟨some 0,m (t 15),none⟩]) .ret))
def q9R:q0h:=⟨0,16,[.tmp 0],k5q⟩
theorem k3A:FOK Tryz.prog 127 q9R:=FOK.of [] Tryz.func127 (by kernel_rfl) (by kernel_rfl)
def k6V:q0f:=(.seq (.ops [⟨some 2,m (c (.int .i64 0)),none⟩]) (.seq (.ops [⟨some 3,.build [(.int .i64 0),(.int .i64 0),(.int .i64 0),(.int .i64 0),(.int .i64 0),(.int .i64 0),(.int .i64 0),(.int .i64 0),(.int .i64 0)] [(0,1,(.const (.int .i64 66))),(1,1,(.const (.int .i64 67))),(2,1,(.const (.int .i64 75))),(3,1,(.const (.int .i64 74))),(4,1,(.const (.int .i64 71))),(5,1,(.const (.int .i64 68))),(6,1,(.const (.int .i64 69))),(7,1,(.const (.int .i64 72))),(8,1,(.const (.int .i64 73)))],none⟩,⟨some 4,m (t 0),none⟩,⟨some 5,.index (t 3) (t 4) 9 false 1,none⟩,⟨some 2,m (t 5),none⟩]) .ret))
def k0W:q0h:=⟨1,6,[.tmp 2],k6V⟩
theorem k5r:FOK Tryz.prog 128 k0W:=FOK.of [] Tryz.func128 (by kernel_rfl) (by kernel_rfl)
def q2k:q0f:=(.seq (.ops [⟨some 4,m (c (.bool false)),none⟩]) (.seq (.ops [⟨some 5,m (t 0),none⟩,⟨some 6,m (t 1),none⟩,⟨some 7,.call (.func 138) [(t 5),(t 6)],none⟩,⟨some 8,.int .geq (t 7) (c (.int .i64 0)),none⟩,⟨some 4,m (t 8),none⟩]) .ret))
def q0O:q0h:=⟨2,9,[.tmp 4],q2k⟩
theorem q4a:FOK Tryz.prog 130 q0O:=FOK.of [] Tryz.func130 (by kernel_rfl) (by kernel_rfl)
def q9S:q0f:=(.seq (.ops [⟨some 2,m (c (.bool false)),none⟩]) (.seq (.ops [⟨some 3,m (t 0),none⟩,⟨some 4,.int .lss (t 3) (c (.int .i64 0)),none⟩,⟨some 5,m (t 4),none⟩,⟨some 6,m (t 0),some (5,false)⟩,⟨some 7,.int .gtr (t 6) (c (.int .i64 1114111)),some (5,false)⟩,⟨some 8,.pick (t 5) (c (.bool true)) (t 7),none⟩,⟨some 2,m (t 8),none⟩]) .ret))
def q5x:q0h:=⟨1,9,[.tmp 2],q9S⟩
theorem k3B:FOK Tryz.prog 131 q5x:=FOK.of [] Tryz.func131 (by kernel_rfl) (by kernel_rfl)
def k3C:q0f:=(.seq (.ops [⟨some 0,.alloc [(.int .i64 0),(.int .i64 0),(.int .i64 0),(.int .i64 0),(.int .i64 0),(.int .i64 0),(.int .i64 0),(.int .i64 0),(.int .i64 0),(.int .i64 0),(.int .i64 0),(.int .i64 0),(.int .i64 0),(.int .i64 0),(.int .i64 0),(.int .i64 0),(.int .i64 0),(.int .i64 0),(.int .i64 0),(.int .i64 0),(.int .i64 0),(.int .i64 0),(.int .i64 0),(.int .i64 0),(.int .i64 0),(.int .i64 0),(.int .i64 0),(.int .i64 0),(.int .i64 0),(.int .i64 0),(.int .i64 0),(.int .i64 0),(.int .i64 0),(.int .i64 0),(.int .i64 0),(.int .i64 0),(.int .i64 0),(.int .i64 0),(.int .i64 0),(.int .i64 0),(.int .i64 0),(.int .i64 0),(.int .i64 0),(.int .i64 0),(.int .i64 0),(.int .i64 0),(.int .i64 0),(.int .i64 0),(.int .i64 0),(.int .i64 0),(.int .i64 0),(.int .i64 0),(.int .i64 0),(.int .i64 0),(.int .i64 0),(.int .i64 0),(.int .i64 0),(.int .i64 0),(.int .i64 0),(.int .i64 0),(.int .i64 0),(.int .i64 0),(.int .i64 0),(.int .i64 0),(.int .i64 0),(.int .i64 0),(.int .i64 0),(.int .i64 0),(.int .i64 0),(.int .i64 0),(.int .i64 0),(.int .i64 0),(.int .i64 0),(.int .i64 0)] 234,none⟩]) (.seq (.ops [⟨some 1,.build [(.int .i64 0),(.int .i64 0),(.int .i64 0),(.int .i64 0),(.int .i64 0),(.int .i64 0),(.int .i64 0),(.int .i64 0),(.int .i64 0),(.int .i64 0),(.int .i64 0),(.int .i64 0),(.int .i64 0),(.int .i64 0),(.int .i64 0),(.int .i64 0),(.int .i64 0),(.int .i64 0),(.int .i64 0),(.int .i64 0),(.int .i64 0),(.int .i64 0),(.int .i64 0),(.int .i64 0),(.int .i64 0),(.int .i64 0),(.int .i64 0),(.int .i64 0),(.int .i64 0),(.int .i64 0),(.int .i64 0),(.int .i64 0),(.int .i64 0),(.int .i64 0),(.int .i64 0),(.int .i64 0),(.int .i64 0),(.int .i64 0),(.int .i64 0),(.int .i64 0),(.int .i64 0),(.int .i64 0),(.int .i64 0),(.int .i64 0),(.int .i64 0),(.int .i64 0),(.int .i64 0),(.int .i64 0),(.int .i64 0),(.int .i64 0),(.int .i64 0),(.int .i64 0),(.int .i64 0),(.int .i64 0),(.int .i64 0),(.int .i64 0),(.int .i64 0),(.int .i64 0),(.int .i64 0),(.int .i64 0),(.int .i64 0),(.int .i64 0),(.int .i64 0),(.int .i64 0),(.int .i64 0),(.int .i64 0),(.int .i64 0),(.int .i64 0),(.int .i64 0),(.int .i64 0),(.int .i64 0),(.int .i64 0),(.int .i64 0),(.int .i64 0)] [(0,1,(.const (.int .i64 1))),(1,1,(.const (.int .i64 2))),(2,1,(.const (.int .i64 3))),(3,1,(.const (.int .i64 5))),(4,1,(.const (.int .i64 6))),(5,1,(.const (.int .i64 7))),(6,1,(.const (.int .i64 8))),(7,1,(.const (.int .i64 9))),(8,1,(.const (.int .i64 10))),(9,1,(.const (.int .i64 11))),(10,1,(.const (.int .i64 14))),(11,1,(.const (.int .i64 15))),(12,1,(.const (.int .i64 16))),(13,1,(.const (.int .i64 13))),(14,1,(.const (.int .i64 18))),(15,1,(.const (.int .i64 19))),(16,1,(.const (.int .i64 20))),(17,1,(.const (.int .i64 17))),(18,1,(.const (.int .i64 21))),(19,1,(.const (.int .i64 22))),(20,1,(.const (.int .i64 23))),(21,1,(.const (.int .i64 24))),(22,1,(.const (.int .i64 25))),(23,1,(.const (.int .i64 26))),(24,1,(.const (.int .i64 27))),(25,1,(.const (.int .i64 28))),(26,1,(.const (.int .i64 29))),(27,1,(.const (.int .i64 30))),(28,1,(.const (.int .i64 31))),(29,1,(.const (.int .i64 32))),(30,1,(.const (.int .i64 33))),(31,1,(.const (.int .i64 34))),(32,1,(.const (.int .i64 35))),(33,1,(.const (.int .i64 36))),(34,1,(.const (.int .i64 37))),(35,1,(.const (.int .i64 38))),(36,1,(.const (.int .i64 39))),(37,1,(.const (.int .i64 40))),(38,1,(.const (.int .i64 41))),(39,1,(.const (.int .i64 42))),(40,1,(.const (.int .i64 43))),(41,1,(.const (.int .i64 44))),(42,1,(.const (.int .i64 45))),(43,1,(.const (.int .i64 46))),(44,1,(.const (.int .i64 47))),(45,1,(.const (.int .i64 95))),(46,1,(.const (.int .i64 48))),(47,1,(.const (.int .i64 49))),(48,1,(.const (.int .i64 50))),(49,1,(.const (.int .i64 51))),(50,1,(.const (.int .i64 52))),(51,1,(.const (.int .i64 53))),(52,1,(.const (.int .i64 54))),(53,1,(.const (.int .i64 55))),(54,1,(.const (.int .i64 56))),(55,1,(.const (.int .i64 57))),(56,1,(.const (.int .i64 (-1)))),(57,1,(.const (.int .i64 62))),(58,1,(.const (.int .i64 63))),(59,1,(.const (.int .i64 64))),(60,1,(.const (.int .i64 65))),(61,1,(.const (.int .i64 66))),(62,1,(.const (.int .i64 67))),(63,1,(.const (.int .i64 70))),(64,1,(.const (.int .i64 71))),(65,1,(.const (.int .i64 72))),(66,1,(.const (.int .i64 69))),(67,1,(.const (.int .i64 74))),(68,1,(.const (.int .i64 75))),(69,1,(.const (.int .i64 76))),(70,1,(.const (.int .i64 73))),(71,1,(.const (.int .i64 77))),(72,1,(.const (.int .i64 60))),(73,1,(.const (.int .i64 (-1))))],none⟩,⟨none,.store (t 0) (t 1) 74,none⟩]) .ret))
def q8R:q0h:=⟨0,2,[.cell 0 (some 74)],k3C⟩
theorem k2w:FOK Tryz.prog 137 q8R:=FOK.of [] Tryz.func137 (by kernel_rfl) (by kernel_rfl)
def q0R:q0f:=(.seq (.ops [⟨some 9,.int .lss (t 8) (t 7),none⟩]) (.seq (.cond (t 9) .skip (.exit 0)) (.seq (.block 1 (.seq (.ops [⟨some 10,m (t 8),none⟩,⟨some 5,m (t 10),none⟩]) (.seq (.ops [⟨some 11,m (t 1),none⟩,⟨some 12,m (t 0),none⟩,⟨some 13,m (t 5),none⟩,⟨some 14,.iaddr (t 12) (t 13) 1,none⟩,⟨some 15,.load (t 14) none,none⟩,⟨some 16,.call (t 11) [(t 15)],none⟩]) (.cond (t 16) (.seq (.ops [⟨some 17,m (t 5),none⟩,⟨some 4,m (t 17),none⟩]) .ret) .skip)))) (.ops [⟨some 18,.int .add (t 8) (c (.int .i64 1)),none⟩,⟨some 8,m (t 18),none⟩]))))
def q2Q:q0f:=(.seq (.ops [⟨some 4,m (c (.int .i64 0)),none⟩]) (.seq (.seq (.ops [⟨some 6,m (t 0),none⟩,⟨some 7,.len false (t 6),none⟩,⟨some 8,m (c (.int .i64 0)),none⟩]) (.block 0 (.loop [0,1,7,8] q0R))) (.seq (.ops [⟨some 4,m (c (.int .i64 (-1))),none⟩]) .ret)))
def q0X:q0h:=⟨2,19,[.tmp 4],q2Q⟩
theorem q4X:FOK Tryz.prog 138 q0X:=FOK.of [[0,1,7,8]] Tryz.func138 (by kernel_rfl) (by kernel_rfl)
def q5H:q0f:=(.seq (.ops [⟨some 2,m (c (.slice none 0 0)),none⟩]) (.seq (.seq (.ops [⟨some 3,m (t 0),none⟩,⟨some 4,.nilChk (t 3),none⟩,⟨some 5,.faddr (t 4) 0,none⟩,⟨some 6,.load (t 5) none,none⟩,⟨some 7,.len false (t 6),none⟩,⟨some 8,.int .eql (t 7) (c (.int .i64 0)),none⟩]) (.cond (t 8) (.seq (.ops [⟨some 2,m (c (.slice none 0 0)),none⟩]) .ret) .skip)) (.seq (.ops [⟨some 9,m (t 0),none⟩,⟨some 10,m (t 0),none⟩,⟨some 11,.nilChk (t 10),none⟩,⟨some 12,.faddr (t 11) 0,none⟩,⟨some 13,.load (t 12) none,none⟩,⟨some 14,.len false (t 13),none⟩,⟨some 15,.call (.func 163) [(t 9),(.const (.int .i64 0)),(t 14),(.const (.int .i64 2))],none⟩,⟨some 16,.bslice 36 1 4 [(.int .i64 0),(.int .i64 0),(.slice none 0 0),(.int .i64 0)] [(0,4,(t 15))],none⟩,⟨some 2,m (t 16),none⟩]) .ret)))
def q2I:q0h:=⟨1,17,[.tmp 2],q5H⟩
theorem q8A:FOK Tryz.prog 160 q2I:=FOK.of [] Tryz.func160 (by kernel_rfl) (by kernel_rfl)
def q6d:q0f:=(.seq (.ops [⟨some 4,m (c (.slice none 0 0)),none⟩]) (.seq (.ops [⟨some 5,m (t 0),none⟩,⟨some 6,.nilChk (t 5),none⟩,⟨some 7,.faddr (t 6) 0,none⟩,⟨some 8,m (t 1),none⟩,⟨some 9,.conv .u8 (t 8),none⟩,⟨some 10,.call (.func 164) [(t 7),(t 9)],none⟩,⟨some 4,m (t 10),none⟩]) .ret))
def q2V:q0h:=⟨2,11,[.tmp 4],q6d⟩
theorem q9c:FOK Tryz.prog 162 q2V:=FOK.of [] Tryz.func162 (by kernel_rfl) (by kernel_rfl)
def q5f:q0f:=(.seq (.ops [⟨some 8,.alloc [(.int .i64 0),(.int .i64 0),(.slice none 0 0),(.int .i64 0)] 36,none⟩]) (.seq (.ops [⟨some 10,m (t 0),none⟩,⟨some 11,.nilChk (t 10),none⟩,⟨some 12,.faddr (t 11) 1,none⟩,⟨some 13,.load (t 12) none,none⟩,⟨some 14,m (t 2),none⟩,⟨some 15,m (t 3),none⟩,⟨some 16,.build [(.int .i64 0),(.int .i64 0),(.slice none 0 0),(.int .i64 0)] [(0,1,(t 13)),(1,1,(t 14)),(3,1,(t 15))],none⟩,⟨some 9,.alloc [(.int .i64 0),(.int .i64 0),(.slice none 0 0),(.int .i64 0)] 36,none⟩,⟨none,.store (t 9) (t 16) 4,none⟩]) (.seq (.seq (.ops [⟨some 17,m (t 3),none⟩,⟨some 18,.int .eql (t 17) (c (.int .i64 0)),none⟩]) (.cond (t 18) (.ops [⟨some 19,m (t 1),none⟩,⟨some 20,.bslice 3 1 1 [(.int .i64 0)] [(0,1,(t 19))],none⟩,⟨some 21,.faddr (t 9) 2,none⟩,⟨none,.store (t 21) (t 20) 1,none⟩]) .skip)) (.seq (.ops [⟨some 22,m (t 0),none⟩,⟨some 23,m (t 0),none⟩,⟨some 24,.nilChk (t 23),none⟩,⟨some 25,.faddr (t 24) 0,none⟩,⟨some 26,.load (t 25) none,none⟩,⟨some 27,m (t 2),none⟩,⟨some 28,.slice (t 26) (some (t 27)) none 1,none⟩,⟨some 29,.append (c (.slice none 0 0)) (t 28) 5 1 1,none⟩,⟨some 30,.nilChk (t 22),none⟩,⟨some 31,.faddr (t 30) 0,none⟩,⟨none,.store (t 31) (t 29) 1,none⟩]) (.seq (.ops [⟨some 32,m (t 0),none⟩,⟨some 33,.nilChk (t 32),none⟩,⟨some 34,.faddr (t 33) 1,none⟩,⟨some 35,.load (t 34) none,none⟩,⟨some 36,m (t 2),none⟩,⟨some 37,.int .add (t 35) (t 36),none⟩,⟨some 38,.nilChk (t 32),none⟩,⟨some 39,.faddr (t 38) 1,none⟩,⟨none,.store (t 39) (t 37) 1,none⟩]) (.seq (.ops [⟨some 40,.load (t 9) (some 4),none⟩,⟨none,.store (t 8) (t 40) 4,none⟩]) .ret))))))
def q2o:q0h:=⟨4,41,[.cell 8 (some 4)],q5f⟩
theorem q7L:FOK Tryz.prog 163 q2o:=FOK.of [] Tryz.func163 (by kernel_rfl) (by kernel_rfl)
def q0Z:q0f:=(.seq (.seq (.ops [⟨some 19,m (t 0),none⟩,⟨some 20,.nilChk (t 19),none⟩,⟨some 21,.faddr (t 20) 0,none⟩,⟨some 22,.load (t 21) none,none⟩,⟨some 23,.len false (t 22),none⟩,⟨some 24,.int .gtr (t 23) (c (.int .i64 0)),none⟩]) (.cond (t 24) .skip (.exit 0))) (.block 1 (.seq (.ops [⟨some 26,m (t 0),none⟩,⟨some 27,.nilChk (t 26),none⟩,⟨some 28,.faddr (t 27) 0,none⟩,⟨some 29,.load (t 28) none,none⟩,⟨some 30,.call (.func 28) [(t 29)],none⟩,⟨some 25,m (t 30),none⟩,⟨some 31,.ext (t 25) 0,none⟩,⟨some 32,.ext (t 25) 1,none⟩,⟨some 33,.ext (t 25) 2,none⟩,⟨some 6,m (t 31),none⟩,⟨some 7,m (t 32),none⟩,⟨some 8,m (t 33),none⟩]) (.seq (.seq (.ops [⟨some 34,m (t 8),none⟩,⟨some 35,.int .eql (t 34) (c (.int .i64 2)),none⟩]) (.cond (t 35) (.exit 0) .skip)) (.ops [⟨some 36,m (t 5),none⟩,⟨some 37,m (t 0),none⟩,⟨some 38,m (t 6),none⟩,⟨some 39,m (t 7),none⟩,⟨some 40,m (t 8),none⟩,⟨some 41,.call (.func 163) [(t 37),(t 38),(t 39),(t 40)],none⟩,⟨some 42,.bslice 36 1 4 [(.int .i64 0),(.int .i64 0),(.slice none 0 0),(.int .i64 0)] [(0,4,(t 41))],none⟩,⟨some 43,.append (t 36) (t 42) 36 4 48,none⟩,⟨some 5,m (t 43),none⟩])))))
def q5I:q0f:=(.seq (.ops [⟨some 4,m (c (.slice none 0 0)),none⟩]) (.seq (.ops [⟨some 9,m (t 0),none⟩,⟨some 10,m (t 0),none⟩,⟨some 11,.nilChk (t 10),none⟩,⟨some 12,.faddr (t 11) 0,none⟩,⟨some 13,.load (t 12) none,none⟩,⟨some 14,m (t 1),none⟩,⟨some 15,.bslice 5 1 1 [(.int .u8 0)] [(0,1,(t 14))],none⟩,⟨some 16,.append (t 13) (t 15) 5 1 1,none⟩,⟨some 17,.nilChk (t 9),none⟩,⟨some 18,.faddr (t 17) 0,none⟩,⟨none,.store (t 18) (t 16) 1,none⟩]) (.seq (.ops [⟨some 5,m (c (.slice none 0 0)),none⟩]) (.seq (.block 0 (.loop [0,5] q0Z)) (.seq (.ops [⟨some 44,m (t 5),none⟩,⟨some 4,m (t 44),none⟩]) .ret)))))
def q2J:q0h:=⟨2,45,[.tmp 4],q5I⟩
theorem q8B:FOK Tryz.prog 164 q2J:=FOK.of [[0,5]] Tryz.func164 (by kernel_rfl) (by kernel_rfl)
def q5g : q0f := (.seq (.ops [⟨some 2,m (c (.slice none 0 0)),none⟩]) (.seq (.ops [⟨some 3,m (t 0),none⟩,⟨some 4,m (t 0),none⟩,⟨some 5,.nilChk (t 4),none⟩,⟨some 6,.faddr (t 5) 0,none⟩,⟨some 7,.load (t 6) none,none⟩,⟨some 8,.mop (.inv (t 7) "End" []),none⟩,⟨some 9,.call (.func 168) [(t 3),(t 8)],none⟩,⟨some 2,m (t 9),none⟩]) .ret))
def q2p:q0h:=⟨1,10,[.tmp 2],q5g⟩
theorem q7M:FOK Tryz.prog 165 q2p:=FOK.of [] Tryz.func165 (by kernel_rfl) (by kernel_rfl)
def q5h : q0f := (.seq (.ops [⟨some 4,m (c (.slice none 0 0)),none⟩]) (.seq (.ops [⟨some 5,m (t 0),none⟩,⟨some 6,m (t 0),none⟩,⟨some 7,.nilChk (t 6),none⟩,⟨some 8,.faddr (t 7) 0,none⟩,⟨some 9,.load (t 8) none,none⟩,⟨some 10,m (t 1),none⟩,⟨some 11,.mop (.inv (t 9) "Put" [(t 10)]),none⟩,⟨some 12,.call (.func 168) [(t 5),(t 11)],none⟩,⟨some 4,m (t 12),none⟩]) .ret))
def q2q:q0h:=⟨2,13,[.tmp 4],q5h⟩
theorem q7N:FOK Tryz.prog 167 q2q:=FOK.of [] Tryz.func167 (by kernel_rfl) (by kernel_rfl)
def q0S:q0f:=(.seq (.ops [⟨some 21,.int .lss (t 20) (t 19),none⟩]) (.seq (.cond (t 21) .skip (.exit 2)) (.seq (.block 3 (.seq (.ops [⟨some 22,.iaddr (t 18) (t 20) 1,none⟩,⟨some 23,.load (t 22) none,none⟩,⟨some 9,m (t 23),none⟩]) (.block 4 (.seq (.ops [⟨some 34,m (t 9),none⟩,⟨some 35,.int .geq (t 34) (c (.int .i64 8192)),none⟩,⟨some 33,m (t 35),none⟩]) (.cond (t 33) (.ops [⟨some 36,m (t 7),none⟩,⟨some 37,m (t 9),none⟩,⟨some 38,.int .sub (t 37) (c (.int .i64 8192)),none⟩,⟨some 39,.bslice 3 1 1 [(.int .i64 0)] [(0,1,(t 38))],none⟩,⟨some 40,.append (t 36) (t 39) 3 1 8,none⟩,⟨some 7,m (t 40),none⟩]) (.seq (.ops [⟨some 42,m (t 9),none⟩,⟨some 43,.int .geq (t 42) (c (.int .i64 4096)),none⟩,⟨some 41,m (t 43),none⟩]) (.cond (t 41) (.ops [⟨some 44,m (t 0),none⟩,⟨some 45,m (t 9),none⟩,⟨some 46,.int .sub (t 45) (c (.int .i64 4096)),none⟩,⟨some 47,.nilChk (t 44),none⟩,⟨some 48,.faddr (t 47) 1,none⟩,⟨none,.store (t 48) (t 46) 1,none⟩]) (.ops [⟨some 24,m (t 7),none⟩,⟨some 25,m (t 0),none⟩,⟨some 26,.nilChk (t 25),none⟩,⟨some 27,.faddr (t 26) 1,none⟩,⟨some 28,.load (t 27) none,none⟩,⟨some 29,m (t 9),none⟩,⟨some 30,.call (.func 169) [(t 28),(t 29)],none⟩,⟨some 31,.bslice 3 1 1 [(.int .i64 0)] [(0,1,(t 30))],none⟩,⟨some 32,.append (t 24) (t 31) 3 1 8,none⟩,⟨some 7,m (t 32),none⟩])))))))) (.ops [⟨some 49,.int .add (t 20) (c (.int .i64 1)),none⟩,⟨some 20,m (t 49),none⟩]))))
def q1A:q0f:=(.seq (.ops [⟨some 13,.int .lss (t 12) (t 11),none⟩]) (.seq (.cond (t 13) .skip (.exit 0)) (.seq (.block 1 (.seq (.ops [⟨some 14,m (t 12),none⟩,⟨some 15,.iaddr (t 10) (t 12) 4,none⟩,⟨some 16,.load (t 15) (some 4),none⟩,⟨some 6,.alloc [(.int .i64 0),(.int .i64 0),(.slice none 0 0),(.int .i64 0)] 36,none⟩,⟨some 5,m (t 14),none⟩,⟨none,.store (t 6) (t 16) 4,none⟩]) (.seq (.ops [⟨some 7,m (c (.slice none 0 0)),none⟩]) (.seq (.seq (.ops [⟨some 17,.faddr (t 6) 2,none⟩,⟨some 18,.load (t 17) none,none⟩,⟨some 19,.len false (t 18),none⟩,⟨some 20,m (c (.int .i64 0)),none⟩]) (.block 2 (.loop [0,1,5,7,10,11,12,18,19,20] q0S))) (.ops [⟨some 50,m (t 1),none⟩,⟨some 51,m (t 5),none⟩,⟨some 52,m (t 7),none⟩,⟨some 53,.iaddr (t 50) (t 51) 4,none⟩,⟨some 54,.faddr (t 53) 2,none⟩,⟨none,.store (t 54) (t 52) 1,none⟩]))))) (.ops [⟨some 55,.int .add (t 12) (c (.int .i64 1)),none⟩,⟨some 12,m (t 55),none⟩]))))
def q4Y:q0f:=(.seq (.ops [⟨some 4,m (c (.slice none 0 0)),none⟩]) (.seq (.seq (.ops [⟨some 10,m (t 1),none⟩,⟨some 11,.len false (t 10),none⟩,⟨some 12,m (c (.int .i64 0)),none⟩]) (.block 0 (.loop [0,1,10,11,12] q1A))) (.seq (.ops [⟨some 56,m (t 1),none⟩,⟨some 4,m (t 56),none⟩]) .ret)))
def q2b:q0h:=⟨2,57,[.tmp 4],q4Y⟩
theorem q7y:FOK Tryz.prog 168 q2b:=FOK.of [[0,1,10,11,12],[0,1,5,7,10,11,12,18,19,20]] Tryz.func168 (by kernel_rfl) (by kernel_rfl)
def q8S:q0f:=(.seq (.ops [⟨some 4,m (c (.int .i64 0)),none⟩]) (.seq (.ops [⟨some 5,m (t 0),none⟩,⟨some 6,.int .mul (c (.int .i64 128)) (t 5),none⟩,⟨some 7,.int .add (c (.int .i64 2304)) (t 6),none⟩,⟨some 8,m (t 1),none⟩,⟨some 9,.int .add (t 7) (t 8),none⟩,⟨some 4,m (t 9),none⟩]) .ret))
def q4N:q0h:=⟨2,10,[.tmp 4],q8S⟩
theorem k2x:FOK Tryz.prog 169 q4N:=FOK.of [] Tryz.func169 (by kernel_rfl) (by kernel_rfl)
def q5i:q0f:=(.seq (.ops [⟨some 2,m (c (.slice none 0 0)),none⟩]) (.seq (.ops [⟨some 2,m (c (.slice none 0 0)),none⟩]) .ret))
def q2r:q0h:=⟨1,3,[.tmp 2],q5i⟩
theorem q7O:FOK Tryz.prog 170 q2r:=FOK.of [] Tryz.func170 (by kernel_rfl) (by kernel_rfl)
def q1P:q0f:=(.seq (.ops [⟨some 20,.int .lss (t 19) (t 18),none⟩]) (.seq (.cond (t 20) .skip (.exit 0)) (.seq (.block 1 (.seq (.ops [⟨some 21,.iaddr (t 17) (t 19) 1,none⟩,⟨some 22,.load (t 21) none,none⟩,⟨some 7,m (t 22),none⟩]) (.ops [⟨some 23,.faddr (t 5) 2,none⟩,⟨some 24,.load (t 23) none,none⟩,⟨some 25,m (t 7),none⟩,⟨some 26,.conv .i64 (t 25),none⟩,⟨some 27,.bslice 3 1 1 [(.int .i64 0)] [(0,1,(t 26))],none⟩,⟨some 28,.append (t 24) (t 27) 3 1 8,none⟩,⟨some 29,.faddr (t 5) 2,none⟩,⟨none,.store (t 29) (t 28) 1,none⟩]))) (.ops [⟨some 30,.int .add (t 19) (c (.int .i64 1)),none⟩,⟨some 19,m (t 30),none⟩]))))
def q5j:q0f:=(.seq (.ops [⟨some 4,m (c (.slice none 0 0)),none⟩]) (.seq (.ops [⟨some 8,m (t 0),none⟩,⟨some 9,.nilChk (t 8),none⟩,⟨some 10,.faddr (t 9) 0,none⟩,⟨some 11,.load (t 10) none,none⟩,⟨some 12,.build [(.int .i64 0),(.int .i64 0),(.slice none 0 0),(.int .i64 0)] [(0,1,(t 11)),(1,1,(.const (.int .i64 1))),(3,1,(.const (.int .i64 3)))],none⟩,⟨some 5,.alloc [(.int .i64 0),(.int .i64 0),(.slice none 0 0),(.int .i64 0)] 36,none⟩,⟨none,.store (t 5) (t 12) 4,none⟩]) (.seq (.seq (.ops [⟨some 13,m (t 1),none⟩,⟨some 14,.call (.func 49) [(t 13)],none⟩]) (.cond (t 14) (.seq (.ops [⟨some 15,.faddr (t 5) 3,none⟩,⟨none,.store (t 15) (c (.int .i64 0)) 1,none⟩]) (.seq (.ops [⟨some 16,m (t 1),none⟩,⟨some 17,.call (.func 11) [(.const (.slice none 0 0)),(t 16)],none⟩,⟨some 18,.len false (t 17),none⟩,⟨some 19,m (c (.int .i64 0)),none⟩]) (.block 0 (.loop [0,5,17,18,19] q1P)))) .skip)) (.seq (.ops [⟨some 31,m (t 0),none⟩,⟨some 32,.nilChk (t 31),none⟩,⟨some 33,.faddr (t 32) 0,none⟩,⟨some 34,.load (t 33) none,none⟩,⟨some 35,.int .add (t 34) (c (.int .i64 1)),none⟩,⟨some 36,.nilChk (t 31),none⟩,⟨some 37,.faddr (t 36) 0,none⟩,⟨none,.store (t 37) (t 35) 1,none⟩]) (.seq (.ops [⟨some 38,.load (t 5) (some 4),none⟩,⟨some 39,.bslice 36 1 4 [(.int .i64 0),(.int .i64 0),(.slice none 0 0),(.int .i64 0)] [(0,4,(t 38))],none⟩,⟨some 4,m (t 39),none⟩]) .ret)))))
def q2s:q0h:=⟨2,40,[.tmp 4],q5j⟩
theorem q7P:FOK Tryz.prog 172 q2s:=FOK.of [[0,5,17,18,19]] Tryz.func172 (by kernel_rfl) (by kernel_rfl)
def q3n:q0f:=(.seq (.ops [⟨some 2,m (c (.slice none 0 0)),none⟩]) (.seq (.ops [⟨some 3,m (t 0),none⟩,⟨some 4,.nilChk (t 3),none⟩,⟨some 5,.faddr (t 4) 0,none⟩,⟨some 6,.load (t 5) none,none⟩,⟨some 7,.call (.func 176) [(t 6)],none⟩,⟨some 2,m (t 7),none⟩]) .ret))
def q1g:q0h:=⟨1,8,[.tmp 2],q3n⟩
theorem q7Q:FOK Tryz.prog 173 q1g:=FOK.of [] Tryz.func173 (by kernel_rfl) (by kernel_rfl)
def q5k:q0f:=(.seq (.ops [⟨some 4,m (c (.slice none 0 0)),none⟩]) (.seq (.ops [⟨some 13,m (t 1),none⟩,⟨some 14,.call (.func 177) [(t 13)],none⟩,⟨some 12,m (t 14),none⟩,⟨some 15,.ext (t 12) 0,none⟩,⟨some 16,.ext (t 12) 1,none⟩,⟨some 17,.ext (t 12) 2,none⟩,⟨some 5,m (t 15),none⟩,⟨some 6,m (t 16),none⟩,⟨some 7,m (t 17),none⟩]) (.seq (.ops [⟨some 18,m (t 6),none⟩,⟨some 8,m (t 18),none⟩]) (.seq (.block 0 (.seq (.ops [⟨some 20,m (t 1),none⟩,⟨some 21,.call (.func 49) [(t 20)],none⟩,⟨some 22,.not (t 21),none⟩,⟨some 19,m (t 22),none⟩]) (.cond (t 19) (.ops [⟨some 8,m (c (.int .i64 (-1))),none⟩]) (.seq (.ops [⟨some 24,m (t 7),none⟩,⟨some 25,.not (t 24),none⟩,⟨some 23,m (t 25),none⟩]) (.cond (t 23) (.ops [⟨some 26,m (t 1),none⟩,⟨some 27,.int .add (c (.int .i64 8192)) (t 26),none⟩,⟨some 8,m (t 27),none⟩]) .skip))))) (.seq (.ops [⟨some 9,m (c (.slice none 0 0)),none⟩]) (.seq (.seq (.ops [⟨some 28,m (t 7),none⟩,⟨some 29,m (t 28),none⟩,⟨some 30,m (t 5),some (29,true)⟩,⟨some 31,m (t 0),some (29,true)⟩,⟨some 32,.nilChk (t 31),some (29,true)⟩,⟨some 33,.faddr (t 32) 1,some (29,true)⟩,⟨some 34,.load (t 33) none,some (29,true)⟩,⟨some 35,.int .neq (t 30) (t 34),some (29,true)⟩,⟨some 36,.pick (t 29) (t 35) (c (.bool false)),none⟩]) (.cond (t 36) (.seq (.ops [⟨some 37,m (t 0),none⟩,⟨some 38,.nilChk (t 37),none⟩,⟨some 39,.faddr (t 38) 0,none⟩,⟨some 40,.load (t 39) none,none⟩,⟨some 41,.call (.func 176) [(t 40)],none⟩,⟨some 9,m (t 41),none⟩]) (.seq (.ops [⟨some 43,m (t 5),none⟩,⟨some 44,.call (.func 178) [(t 43)],none⟩,⟨some 42,m (t 44),none⟩,⟨some 45,.ext (t 42) 0,none⟩,⟨some 46,.ext (t 42) 1,none⟩,⟨some 10,m (t 45),none⟩,⟨some 11,m (t 46),none⟩]) (.seq (.ops [⟨some 47,m (t 0),none⟩,⟨some 48,m (t 5),none⟩,⟨some 49,.nilChk (t 47),none⟩,⟨some 50,.faddr (t 49) 1,none⟩,⟨none,.store (t 50) (t 48) 1,none⟩]) (.seq (.ops [⟨some 51,m (t 0),none⟩,⟨some 52,.nilChk (t 51),none⟩,⟨some 53,.faddr (t 52) 0,none⟩,⟨some 54,.load (t 53) none,none⟩,⟨some 55,.call (.func 179) [(t 54)],none⟩]) (.ops [⟨some 56,m (t 9),none⟩,⟨some 57,m (t 0),none⟩,⟨some 58,.nilChk (t 57),none⟩,⟨some 59,.faddr (t 58) 2,none⟩,⟨some 60,.load (t 59) none,none⟩,⟨some 61,m (t 10),none⟩,⟨some 62,.bslice 3 2 1 [(.int .i64 0)] [(0,1,(.const (.int .i64 239))),(1,1,(t 61))],none⟩,⟨some 63,.build [(.int .i64 0),(.int .i64 0),(.slice none 0 0),(.int .i64 0)] [(0,1,(t 60)),(2,1,(t 62))],none⟩,⟨some 64,.bslice 36 1 4 [(.int .i64 0),(.int .i64 0),(.slice none 0 0),(.int .i64 0)] [(0,4,(t 63))],none⟩,⟨some 65,.append (t 56) (t 64) 36 4 48,none⟩,⟨some 9,m (t 65),none⟩]))))) .skip)) (.seq (.ops [⟨some 66,m (t 0),none⟩,⟨some 67,.nilChk (t 66),none⟩,⟨some 68,.faddr (t 67) 2,none⟩,⟨some 69,.load (t 68) none,none⟩,⟨some 70,.int .add (t 69) (c (.int .i64 1)),none⟩,⟨some 71,.nilChk (t 66),none⟩,⟨some 72,.faddr (t 71) 2,none⟩,⟨none,.store (t 72) (t 70) 1,none⟩]) (.seq (.ops [⟨some 73,m (t 9),none⟩,⟨some 74,m (t 0),none⟩,⟨some 75,.nilChk (t 74),none⟩,⟨some 76,.faddr (t 75) 0,none⟩,⟨some 77,.load (t 76) none,none⟩,⟨some 78,m (t 8),none⟩,⟨some 79,.call (.func 180) [(t 77),(t 78)],none⟩,⟨some 80,.append (t 73) (t 79) 36 4 48,none⟩,⟨some 4,m (t 80),none⟩]) .ret))))))))
def q2t:q0h:=⟨2,81,[.tmp 4],q5k⟩
theorem q7R:FOK Tryz.prog 175 q2t:=FOK.of [] Tryz.func175 (by kernel_rfl) (by kernel_rfl)
def q4p:q0f:=(.seq (.ops [⟨some 2,m (c (.slice none 0 0)),none⟩]) (.seq (.ops [⟨some 3,m (t 0),none⟩,⟨some 4,m (t 0),none⟩,⟨some 5,.nilChk (t 4),none⟩,⟨some 6,.faddr (t 5) 0,none⟩,⟨some 7,.load (t 6) none,none⟩,⟨some 8,.call (.func 182) [(t 7)],none⟩,⟨some 9,.call (.func 181) [(t 3),(t 8)],none⟩,⟨some 2,m (t 9),none⟩]) .ret))
def q1Q:q0h:=⟨1,10,[.tmp 2],q4p⟩
theorem q7h:FOK Tryz.prog 176 q1Q:=FOK.of [] Tryz.func176 (by kernel_rfl) (by kernel_rfl)
def k4d:q0f:=(.seq (.ops [⟨some 2,m (c (.int .i64 0)),none⟩,⟨some 3,m (c (.int .i64 0)),none⟩,⟨some 4,m (c (.bool false)),none⟩]) (.seq (.seq (.ops [⟨some 5,m (t 0),none⟩,⟨some 6,.int .lss (t 5) (c (.int .i64 2304)),none⟩,⟨some 7,m (t 6),none⟩,⟨some 8,m (t 0),some (7,false)⟩,⟨some 9,.int .geq (t 8) (c (.int .i64 3456)),some (7,false)⟩,⟨some 10,.pick (t 7) (c (.bool true)) (t 9),none⟩,⟨some 11,m (t 10),none⟩,⟨some 12,m (t 0),some (11,false)⟩,⟨some 13,.int .eql (t 12) (c (.int .i64 2404)),some (11,false)⟩,⟨some 14,.pick (t 11) (c (.bool true)) (t 13),none⟩]) (.cond (t 14) (.seq (.ops [⟨some 2,m (c (.int .i64 0)),none⟩,⟨some 3,m (c (.int .i64 0)),none⟩,⟨some 4,m (c (.bool false)),none⟩]) .ret) .skip)) (.seq (.ops [⟨some 15,m (t 0),none⟩,⟨some 16,.int .sub (t 15) (c (.int .i64 2304)),none⟩,⟨some 17,.int .quo (t 16) (c (.int .i64 128)),none⟩,⟨some 18,m (t 0),none⟩,⟨some 19,.int .sub (t 18) (c (.int .i64 2304)),none⟩,⟨some 20,.int .rem (t 19) (c (.int .i64 128)),none⟩,⟨some 2,m (t 17),none⟩,⟨some 3,m (t 20),none⟩,⟨some 4,m (c (.bool true)),none⟩]) .ret)))
def q8p:q0h:=⟨1,21,[.tmp 2,.tmp 3,.tmp 4],k4d⟩
theorem k8I:FOK Tryz.prog 177 q8p:=FOK.of [] Tryz.func177 (by kernel_rfl) (by kernel_rfl)
def k0X:q0f:=(.seq (.ops [⟨some 2,m (c (.int .i64 0)),none⟩,⟨some 3,m (c (.bool false)),none⟩]) (.seq (.seq (.ops [⟨some 4,m (t 0),none⟩,⟨some 5,.int .lss (t 4) (c (.int .i64 0)),none⟩,⟨some 6,m (t 5),none⟩,⟨some 7,m (t 0),some (6,false)⟩,⟨some 8,.int .geq (t 7) (c (.int .i64 9)),some (6,false)⟩,⟨some 9,.pick (t 6) (c (.bool true)) (t 8),none⟩]) (.cond (t 9) (.seq (.ops [⟨some 2,m (c (.int .i64 0)),none⟩,⟨some 3,m (c (.bool false)),none⟩]) .ret) .skip)) (.seq (.ops [⟨some 10,m (t 0),none⟩,⟨some 11,.call (.func 128) [(t 10)],none⟩,⟨some 2,m (t 11),none⟩,⟨some 3,m (c (.bool true)),none⟩]) .ret)))
def q6e:q0h:=⟨1,12,[.tmp 2,.tmp 3],k0X⟩
theorem k5s:FOK Tryz.prog 178 q6e:=FOK.of [] Tryz.func178 (by kernel_rfl) (by kernel_rfl)
def q3J:q0f:=(.ops [⟨some 2,m (t 0),none⟩,⟨some 3,.nilChk (t 2),none⟩,⟨some 4,.faddr (t 3) 2,none⟩,⟨none,.store (t 4) (c (.slice none 0 0)) 1,none⟩])
def q1p:q0h:=⟨1,5,[],q3J⟩
theorem q6t:FOK Tryz.prog 179 q1p:=FOK.of [] Tryz.func179 (by kernel_rfl) (by kernel_rfl)
def q4q:q0f:=(.seq (.ops [⟨some 4,m (c (.slice none 0 0)),none⟩]) (.seq (.ops [⟨some 5,m (t 0),none⟩,⟨some 6,m (t 0),none⟩,⟨some 7,.nilChk (t 6),none⟩,⟨some 8,.faddr (t 7) 0,none⟩,⟨some 9,.load (t 8) none,none⟩,⟨some 10,m (t 1),none⟩,⟨some 11,.call (.func 183) [(t 9),(t 10)],none⟩,⟨some 12,.call (.func 181) [(t 5),(t 11)],none⟩,⟨some 4,m (t 12),none⟩]) .ret))
def q1R:q0h:=⟨2,13,[.tmp 4],q4q⟩
theorem q7i:FOK Tryz.prog 180 q1R:=FOK.of [] Tryz.func180 (by kernel_rfl) (by kernel_rfl)
def q0W:q0f:=(.seq (.ops [⟨some 10,.int .lss (t 9) (t 8),none⟩]) (.seq (.cond (t 10) .skip (.exit 0)) (.seq (.block 1 (.seq (.ops [⟨some 11,m (t 9),none⟩,⟨some 12,.iaddr (t 7) (t 9) 4,none⟩,⟨some 13,.load (t 12) (some 4),none⟩,⟨some 6,.alloc [(.int .i64 0),(.int .i64 0),(.slice none 0 0),(.int .i64 0)] 36,none⟩,⟨some 5,m (t 11),none⟩,⟨none,.store (t 6) (t 13) 4,none⟩]) (.seq (.draw [⟨some 14,m (t 1),none⟩,⟨some 15,m (t 5),none⟩,⟨some 16,m (t 0),none⟩,⟨some 17,.nilChk (t 16),none⟩,⟨some 18,.faddr (t 17) 1,none⟩,⟨some 19,.load (t 18) none,none⟩,⟨some 20,m (t 0),none⟩,⟨some 21,.nilChk (t 20),none⟩,⟨some 22,.faddr (t 21) 2,none⟩,⟨some 23,.load (t 22) none,none⟩,⟨some 24,.load (t 6) (some 4),none⟩,⟨some 25,.call (.func 184) [(t 19),(t 23),(t 24)],none⟩,⟨some 26,.iaddr (t 14) (t 15) 4,none⟩,⟨none,.store (t 26) (t 25) 4,none⟩]) (.seq (.ops [⟨some 27,m (t 1),none⟩,⟨some 28,m (t 5),none⟩,⟨some 29,.iaddr (t 27) (t 28) 4,none⟩,⟨some 30,.faddr (t 29) 3,none⟩,⟨some 31,.load (t 30) none,none⟩,⟨some 32,.int .eql (t 31) (c (.int .i64 0)),none⟩]) (.cond (t 32) (.ops [⟨some 33,m (t 0),none⟩,⟨some 34,.faddr (t 6) 2,none⟩,⟨some 35,.load (t 34) none,none⟩,⟨some 36,.nilChk (t 33),none⟩,⟨some 37,.faddr (t 36) 2,none⟩,⟨none,.store (t 37) (t 35) 1,none⟩]) .skip))))) (.ops [⟨some 38,.int .add (t 9) (c (.int .i64 1)),none⟩,⟨some 9,m (t 38),none⟩]))))
def q4b:q0f:=(.seq (.ops [⟨some 4,m (c (.slice none 0 0)),none⟩]) (.seq (.seq (.ops [⟨some 7,m (t 1),none⟩,⟨some 8,.len false (t 7),none⟩,⟨some 9,m (c (.int .i64 0)),none⟩]) (.block 0 (.loop [0,1,7,8,9] q0W))) (.seq (.ops [⟨some 39,m (t 1),none⟩,⟨some 4,m (t 39),none⟩]) .ret)))
def q1B:q0h:=⟨2,40,[.tmp 4],q4b⟩
theorem q6F:FOK Tryz.prog 181 q1B:=FOK.of [[0,1,7,8,9],[0,1,2,3,4,5,6,7,8,9,10,11,12,13]] Tryz.func181 (by kernel_rfl) (by kernel_rfl)
def q6f:q0f:=(.seq (.ops [⟨some 2,m (c (.slice none 0 0)),none⟩]) (.seq (.ops [⟨some 3,m (t 0),none⟩,⟨some 4,.call (.func 185) [(t 3),(.const (.bool true))],none⟩,⟨some 2,m (t 4),none⟩]) .ret))
def q2W:q0h:=⟨1,5,[.tmp 2],q6f⟩
theorem q9d:FOK Tryz.prog 182 q2W:=FOK.of [] Tryz.func182 (by kernel_rfl) (by kernel_rfl)
def q6g:q0f:=(.seq (.ops [⟨some 4,m (c (.slice none 0 0)),none⟩]) (.seq (.ops [⟨some 5,m (t 0),none⟩,⟨some 6,m (t 0),none⟩,⟨some 7,.nilChk (t 6),none⟩,⟨some 8,.faddr (t 7) 1,none⟩,⟨some 9,.load (t 8) none,none⟩,⟨some 10,m (t 1),none⟩,⟨some 11,.bslice 3 1 1 [(.int .i64 0)] [(0,1,(t 10))],none⟩,⟨some 12,.append (t 9) (t 11) 3 1 8,none⟩,⟨some 13,.nilChk (t 5),none⟩,⟨some 14,.faddr (t 13) 1,none⟩,⟨none,.store (t 14) (t 12) 1,none⟩]) (.seq (.ops [⟨some 15,m (t 0),none⟩,⟨some 16,.call (.func 185) [(t 15),(.const (.bool false))],none⟩,⟨some 4,m (t 16),none⟩]) .ret)))
def q2X:q0h:=⟨2,17,[.tmp 4],q6g⟩
theorem q9e:FOK Tryz.prog 183 q2X:=FOK.of [] Tryz.func183 (by kernel_rfl) (by kernel_rfl)
def q5J:q0f:=(.seq (.ops [⟨some 5,.box (t 2) 36,none⟩,⟨some 6,.alloc [(.int .i64 0),(.int .i64 0),(.slice none 0 0),(.int .i64 0)] 36,none⟩]) (.seq (.seq (.ops [⟨some 7,.faddr (t 5) 3,none⟩,⟨some 8,.load (t 7) none,none⟩,⟨some 9,.int .eql (t 8) (c (.int .i64 0)),none⟩,⟨some 10,m (t 9),none⟩,⟨some 11,m (t 0),some (10,true)⟩,⟨some 12,m (t 1),some (10,true)⟩,⟨some 13,.faddr (t 5) 2,some (10,true)⟩,⟨some 14,.load (t 13) none,some (10,true)⟩,⟨some 15,.call (.func 186) [(t 11),(t 12),(t 14)],some (10,true)⟩,⟨some 16,.pick (t 10) (t 15) (c (.bool false)),none⟩]) (.cond (t 16) (.seq (.ops [⟨some 17,.faddr (t 5) 0,none⟩,⟨some 18,.load (t 17) none,none⟩,⟨some 19,.faddr (t 5) 1,none⟩,⟨some 20,.load (t 19) none,none⟩,⟨some 21,.build [(.int .i64 0),(.int .i64 0),(.slice none 0 0),(.int .i64 0)] [(0,1,(t 18)),(1,1,(t 20)),(3,1,(.const (.int .i64 3)))],none⟩,⟨none,.store (t 6) (t 21) 4,none⟩]) .ret) .skip)) (.seq (.ops [⟨some 22,.load (t 5) (some 4),none⟩,⟨none,.store (t 6) (t 22) 4,none⟩]) .ret)))
def q2K:q0h:=⟨3,23,[.cell 6 (some 4)],q5J⟩
theorem q8C:FOK Tryz.prog 184 q2K:=FOK.of [] Tryz.func184 (by kernel_rfl) (by kernel_rfl)
def q0P:q0f:=(.seq (.seq (.ops [⟨some 10,m (t 0),none⟩,⟨some 11,.nilChk (t 10),none⟩,⟨some 12,.faddr (t 11) 1,none⟩,⟨some 13,.load (t 12) none,none⟩,⟨some 14,.len false (t 13),none⟩,⟨some 15,.int .gtr (t 14) (c (.int .i64 0)),none⟩]) (.cond (t 15) .skip (.exit 0))) (.block 1 (.seq (.draw [⟨some 17,m (t 0),none⟩,⟨some 18,.nilChk (t 17),none⟩,⟨some 19,.faddr (t 18) 0,none⟩,⟨some 20,.load (t 19) none,none⟩,⟨some 21,m (t 0),none⟩,⟨some 22,.nilChk (t 21),none⟩,⟨some 23,.faddr (t 22) 1,none⟩,⟨some 24,.load (t 23) none,none⟩,⟨some 25,.call (.func 73) [(t 20),(t 24)],none⟩,⟨some 16,m (t 25),none⟩,⟨some 26,.ext (t 16) 0,none⟩,⟨some 27,.ext (t 16) 1,none⟩,⟨some 28,.ext (t 16) 2,none⟩,⟨some 6,m (t 26),none⟩,⟨some 7,m (t 27),none⟩,⟨some 8,m (t 28),none⟩]) (.seq (.draw [⟨some 29,m (t 0),none⟩,⟨some 30,.nilChk (t 29),none⟩,⟨some 31,.faddr (t 30) 3,none⟩,⟨some 32,.load (t 31) none,none⟩,⟨some 33,m (t 0),none⟩,⟨some 34,.nilChk (t 33),none⟩,⟨some 35,.faddr (t 34) 1,none⟩,⟨some 36,.load (t 35) none,none⟩,⟨some 37,.len false (t 36),none⟩,⟨some 38,.int .add (t 32) (t 37),none⟩,⟨some 39,.nilChk (t 29),none⟩,⟨some 40,.faddr (t 39) 3,none⟩,⟨none,.store (t 40) (t 38) 1,none⟩]) (.seq (.seq (.ops [⟨some 41,m (t 8),none⟩,⟨some 42,m (t 41),none⟩,⟨some 43,m (t 1),some (42,true)⟩,⟨some 44,.not (t 43),some (42,true)⟩,⟨some 45,.pick (t 42) (t 44) (c (.bool false)),none⟩]) (.cond (t 45) (.exit 0) .skip)) (.seq (.ops [⟨some 46,m (t 0),none⟩,⟨some 47,.nilChk (t 46),none⟩,⟨some 48,.faddr (t 47) 2,none⟩,⟨some 49,.load (t 48) none,none⟩,⟨some 50,m (t 7),none⟩,⟨some 51,.max2 (c (.int .i64 1)) (t 50),none⟩,⟨some 52,.build [(.int .i64 0),(.int .i64 0),(.slice none 0 0),(.int .i64 0)] [(0,1,(t 49)),(1,1,(t 51))],none⟩,⟨some 9,.alloc [(.int .i64 0),(.int .i64 0),(.slice none 0 0),(.int .i64 0)] 36,none⟩,⟨none,.store (t 9) (t 52) 4,none⟩]) (.seq (.seq (.ops [⟨some 53,m (t 6),none⟩,⟨some 54,.int .lss (t 53) (c (.int .i64 0)),none⟩]) (.cond (t 54) (.ops [⟨some 55,.faddr (t 9) 3,none⟩,⟨none,.store (t 55) (c (.int .i64 3)) 1,none⟩]) (.ops [⟨some 56,m (t 0),none⟩,⟨some 57,.nilChk (t 56),none⟩,⟨some 58,.faddr (t 57) 0,none⟩,⟨some 59,.load (t 58) none,none⟩,⟨some 60,m (t 6),none⟩,⟨some 61,.call (.func 74) [(t 59),(t 60)],none⟩,⟨some 62,.faddr (t 9) 2,none⟩,⟨none,.store (t 62) (t 61) 1,none⟩]))) (.seq (.ops [⟨some 63,m (t 5),none⟩,⟨some 64,.load (t 9) (some 4),none⟩,⟨some 65,.bslice 36 1 4 [(.int .i64 0),(.int .i64 0),(.slice none 0 0),(.int .i64 0)] [(0,4,(t 64))],none⟩,⟨some 66,.append (t 63) (t 65) 36 4 48,none⟩,⟨some 5,m (t 66),none⟩]) (.seq (.draw [⟨some 67,m (t 0),none⟩,⟨some 68,m (t 0),none⟩,⟨some 69,.nilChk (t 68),none⟩,⟨some 70,.faddr (t 69) 1,none⟩,⟨some 71,.load (t 70) none,none⟩,⟨some 72,.faddr (t 9) 1,none⟩,⟨some 73,.load (t 72) none,none⟩,⟨some 74,.slice (t 71) (some (t 73)) none 1,none⟩,⟨some 75,.append (c (.slice none 0 0)) (t 74) 3 1 8,none⟩,⟨some 76,.nilChk (t 67),none⟩,⟨some 77,.faddr (t 76) 1,none⟩,⟨none,.store (t 77) (t 75) 1,none⟩]) (.draw [⟨some 78,m (t 0),none⟩,⟨some 79,.nilChk (t 78),none⟩,⟨some 80,.faddr (t 79) 2,none⟩,⟨some 81,.load (t 80) none,none⟩,⟨some 82,.faddr (t 9) 1,none⟩,⟨some 83,.load (t 82) none,none⟩,⟨some 84,.int .add (t 81) (t 83),none⟩,⟨some 85,.nilChk (t 78),none⟩,⟨some 86,.faddr (t 85) 2,none⟩,⟨none,.store (t 86) (t 84) 1,none⟩]))))))))))
def q5K:q0f:=(.seq (.ops [⟨some 4,m (c (.slice none 0 0)),none⟩]) (.seq (.ops [⟨some 5,m (c (.slice none 0 0)),none⟩]) (.seq (.block 0 (.loop [0,1,5] q0P)) (.seq (.ops [⟨some 87,m (t 5),none⟩,⟨some 4,m (t 87),none⟩]) .ret))))
def q2L:q0h:=⟨2,88,[.tmp 4],q5K⟩
theorem q8D:FOK Tryz.prog 185 q2L:=FOK.of [[0,1,5],[0,1,2,3,4,5,6,7,8,9,10,11,12,13,14,15],[0,1,2,3,4,5,6,7,8,9,10,11,12],[0,1,2,3,4,5,6,7,8,9,10,11],[0,1,2,3,4,5,6,7,8,9]] Tryz.func185 (by kernel_rfl) (by kernel_rfl)
def q5l:q0f:=(.seq (.ops [⟨some 6,m (c (.bool false)),none⟩]) (.seq (.seq (.ops [⟨some 10,m (t 1),none⟩,⟨some 11,.len false (t 10),none⟩,⟨some 12,.int .eql (t 11) (c (.int .i64 0)),none⟩]) (.cond (t 12) (.seq (.ops [⟨some 6,m (c (.bool false)),none⟩]) .ret) .skip)) (.seq (.draw [⟨some 14,m (t 0),none⟩,⟨some 15,.nilChk (t 14),none⟩,⟨some 16,.faddr (t 15) 2,none⟩,⟨some 17,.load (t 16) none,none⟩,⟨some 18,m (t 1),none⟩,⟨some 20,m (t 2),none⟩,⟨some 19,.call (.func 93) [(t 18)],none⟩,⟨some 21,.append (t 19) (t 20) 3 1 8,none⟩,⟨some 22,.call (.func 73) [(t 17),(t 21)],none⟩,⟨some 13,m (t 22),none⟩,⟨some 23,.ext (t 13) 0,none⟩,⟨some 24,.ext (t 13) 1,none⟩,⟨some 25,.ext (t 13) 2,none⟩,⟨some 7,m (t 23),none⟩,⟨some 8,m (t 24),none⟩,⟨some 9,m (t 25),none⟩]) (.seq (.ops [⟨some 26,m (t 8),none⟩,⟨some 27,m (t 1),none⟩,⟨some 28,.len false (t 27),none⟩,⟨some 29,.int .gtr (t 26) (t 28),none⟩,⟨some 6,m (t 29),none⟩]) .ret))))
def q2u:q0h:=⟨3,30,[.tmp 6],q5l⟩
theorem q7S:FOK Tryz.prog 186 q2u:=FOK.of [[0,1,2,3,4,6,5,7,8,9,10,11,12,13,14,15]] Tryz.func186 (by kernel_rfl) (by kernel_rfl)
end
section
open Go.Operand renaming tmp → t,const → c
open Lon.AOp renaming mv → m
def k4e:q0f:=(.seq (.ops [⟨some 4,m (c (.bool false)),none⟩]) (.seq (.ops [⟨some 5,m (t 0),none⟩,⟨some 6,m (t 1),none⟩,⟨some 7,.call (.func 114) [(t 5),(t 6)],none⟩,⟨some 8,.int .geq (t 7) (c (.int .i64 0)),none⟩,⟨some 4,m (t 8),none⟩]) .ret))
def q8q:q0h:=⟨2,9,[.tmp 4],k4e⟩
theorem k8J:FOK Tryz.prog 117 q8q:=FOK.of [] Tryz.func117 (by kernel_rfl) (by kernel_rfl)
end
section
open Go.Operand renaming tmp → t,const → c
open Lon.AOp renaming mv → m
def q1C : q0f := (.seq (.ops [⟨some 58,.int .lss (t 57) (t 56),none⟩]) (.seq (.cond (t 58) .skip (.exit 0)) (.seq (.block 1 (.seq (.ops [⟨some 59,m (t 57),none⟩,⟨some 60,.iaddr (t 55) (t 57) 2,none⟩,⟨some 61,.load (t 60) (some 2),none⟩,⟨some 16,.alloc [(.string ⟨#[]⟩),(.complex .f64 0 0)] 48,none⟩,⟨some 15,m (t 59),none⟩,⟨none,.store (t 16) (t 61) 2,none⟩]) (.seq (.ops [⟨some 63,.faddr (t 16) 0,none⟩,⟨some 64,.load (t 63) none,none⟩,⟨some 65,m (t 11),none⟩,⟨some 66,.call (.func 8) [(t 64),(.const (.string ⟨#[117,116,102,45,56]⟩)),(.const (.int .i64 0)),(t 65)],none⟩,⟨some 62,m (t 66),none⟩,⟨some 67,.ext (t 62) 0,none⟩,⟨some 68,.ext (t 62) 1,none⟩,⟨some 69,.ext (t 62) 2,none⟩,⟨some 18,.alloc [(.int .i64 0),(.int .i64 0),(.int .i64 0)] 27,none⟩,⟨some 17,m (t 67),none⟩,⟨none,.store (t 18) (t 68) 3,none⟩,⟨some 19,m (t 69),none⟩]) (.seq (.ops [⟨some 70,.faddr (t 18) 2,none⟩,⟨some 71,.load (t 70) none,none⟩,⟨some 72,.int .eql (t 71) (c (.int .i64 0)),none⟩,⟨some 73,.faddr (t 16) 1,none⟩,⟨some 74,.load (t 73) none,none⟩,⟨some 75,.gen ⟨none,(.call ⟨.builtin .real,#[(t 74)],#[46]⟩),49,"",#[],none⟩,none⟩,⟨some 76,.gen ⟨none,(.binOp .eql 49 (t 75) (c (.float .f64 0)) 49),4,"",#[],none⟩,none⟩,⟨some 77,.beq true (t 72) (t 76),none⟩,⟨some 78,m (t 77),none⟩,⟨some 79,m (t 15),some (78,false)⟩,⟨some 80,.int .gtr (t 79) (c (.int .i64 0)),some (78,false)⟩,⟨some 81,m (t 80),some (78,false)⟩,⟨some 82,.faddr (t 18) 2,some (81,true)⟩,⟨some 83,.load (t 82) none,some (81,true)⟩,⟨some 84,.int .eql (t 83) (c (.int .i64 0)),some (81,true)⟩,⟨some 85,.pick (t 81) (t 84) (c (.bool false)),some (78,false)⟩,⟨some 86,m (t 85),some (78,false)⟩,⟨some 87,m (t 14),some (86,true)⟩,⟨some 88,m (t 15),some (86,true)⟩,⟨some 89,.int .sub (t 88) (c (.int .i64 1)),some (86,true)⟩,⟨some 90,.iaddr (t 87) (t 89) 2,some (86,true)⟩,⟨some 91,.faddr (t 90) 1,some (86,true)⟩,⟨some 92,.load (t 91) none,some (86,true)⟩,⟨some 93,.gen ⟨none,(.call ⟨.builtin .real,#[(t 92)],#[46]⟩),49,"",#[],none⟩,some (86,true)⟩,⟨some 94,.gen ⟨none,(.binOp .gtr 49 (t 93) (c (.float .f64 0)) 49),4,"",#[],none⟩,some (86,true)⟩,⟨some 95,.pick (t 86) (t 94) (c (.bool false)),some (78,false)⟩,⟨some 96,.pick (t 78) (c (.bool true)) (t 95),none⟩]) (.cond (t 96) (.seq (.ops [⟨some 10,m (c (.bool false)),none⟩]) .ret) .skip))))) (.ops [⟨some 97,.int .add (t 57) (c (.int .i64 1)),none⟩,⟨some 57,m (t 97),none⟩]))))
def q1D:q0f:=(.seq (.ops [⟨some 101,.int .lss (t 100) (t 99),none⟩]) (.seq (.cond (t 101) .skip (.exit 2)) (.seq (.block 3 (.seq (.ops [⟨some 102,.iaddr (t 98) (t 100) 1,none⟩,⟨some 103,.load (t 102) none,none⟩,⟨some 22,m (t 103),none⟩]) (.ops [⟨some 104,m (t 20),none⟩,⟨some 105,m (t 104),none⟩,⟨some 106,m (t 22),some (105,false)⟩,⟨some 107,.int .gtr (t 106) (c (.int .u8 127)),some (105,false)⟩,⟨some 108,.pick (t 105) (c (.bool true)) (t 107),none⟩,⟨some 20,m (t 108),none⟩]))) (.ops [⟨some 109,.int .add (t 100) (c (.int .i64 1)),none⟩,⟨some 100,m (t 109),none⟩]))))
def q4Z : q0f := (.seq (.ops [⟨some 10,m (c (.bool false)),none⟩]) (.seq (.seq (.ops [⟨some 23,.call (.func 7) [],none⟩,⟨some 24,.not (t 23),none⟩]) (.cond (t 24) (.seq (.ops [⟨some 10,m (c (.bool false)),none⟩]) .ret) .skip)) (.seq (.ops [⟨some 25,m (t 0),none⟩,⟨some 26,.call (.func 9) [(t 25)],none⟩,⟨some 27,m (t 1),none⟩,⟨some 28,m (t 2),none⟩,⟨some 29,m (t 3),none⟩,⟨some 30,.call (.func 12) [(t 26),(t 27),(t 28),(t 29)],none⟩,⟨some 11,m (t 30),none⟩]) (.seq (.ops [⟨some 31,.call (.func 13) [],none⟩,⟨some 12,m (t 31),none⟩]) (.seq (.seq (.ops [⟨some 32,m (t 12),none⟩,⟨some 33,.isNil 0 false (t 32),none⟩]) (.cond (t 33) (.seq (.ops [⟨some 10,m (c (.bool false)),none⟩]) .ret) .skip)) (.seq (.ops [⟨some 34,m (t 4),none⟩,⟨some 35,.conv .i64 (t 34),none⟩,⟨some 36,m (t 11),none⟩,⟨some 37,.len false (t 36),none⟩,⟨some 38,.int .add (t 37) (c (.int .i64 1)),none⟩,⟨some 39,.int .rem (t 35) (t 38),none⟩,⟨some 13,m (t 39),none⟩]) (.seq (.ops [⟨some 40,m (t 12),none⟩,⟨some 41,m (t 11),none⟩,⟨some 42,m (t 13),none⟩,⟨some 43,.slice (t 41) none (some (t 42)) 1,none⟩,⟨some 44,.call (.func 14) [(t 40),(t 43)],none⟩]) (.seq (.ops [⟨some 45,m (t 12),none⟩,⟨some 46,m (t 11),none⟩,⟨some 47,m (t 13),none⟩,⟨some 48,.slice (t 46) (some (t 47)) none 1,none⟩,⟨some 49,.call (.func 14) [(t 45),(t 48)],none⟩]) (.seq (.ops [⟨some 50,m (t 12),none⟩,⟨some 51,.call (.func 15) [(t 50)],none⟩,⟨some 14,m (t 51),none⟩]) (.seq (.seq (.ops [⟨some 52,m (t 14),none⟩,⟨some 53,.len false (t 52),none⟩,⟨some 54,.int .neq (t 53) (c (.int .i64 8)),none⟩]) (.cond (t 54) (.seq (.ops [⟨some 10,m (c (.bool false)),none⟩]) .ret) .skip)) (.seq (.seq (.ops [⟨some 55,m (t 14),none⟩,⟨some 56,.len false (t 55),none⟩,⟨some 57,m (c (.int .i64 0)),none⟩]) (.block 0 (.loop [11,14,55,56,57] q1C))) (.seq (.ops [⟨some 20,m (c (.bool false)),none⟩]) (.seq (.seq (.ops [⟨some 98,m (t 11),none⟩,⟨some 99,.len false (t 98),none⟩,⟨some 100,m (c (.int .i64 0)),none⟩]) (.block 2 (.loop [11,14,20,98,99,100] q1D))) (.seq (.draw [⟨some 110,m (t 20),none⟩,⟨some 111,.not (t 110),none⟩,⟨some 112,m (t 111),none⟩,⟨some 113,m (t 11),some (112,true)⟩,⟨some 114,.call (.func 16) [(t 113)],some (112,true)⟩,⟨some 115,.gen ⟨none,(.binOp .eql 9 (t 114) (c (.string ⟨#[97,115,99,105,105]⟩)) 9),4,"",#[],none⟩,some (112,true)⟩,⟨some 116,.pick (t 112) (t 115) (c (.bool false)),none⟩,⟨some 117,m (t 116),none⟩,⟨some 118,m (t 20),some (117,false)⟩,⟨some 119,m (t 118),some (117,false)⟩,⟨some 120,m (t 11),some (119,true)⟩,⟨some 122,m (t 14),some (119,true)⟩,⟨some 123,.iaddr (t 122) (c (.int .i64 0)) 2,some (119,true)⟩,⟨some 124,.faddr (t 123) 0,some (119,true)⟩,⟨some 125,.load (t 124) none,some (119,true)⟩,⟨some 121,.call (.func 16) [(t 120)],some (119,true)⟩,⟨some 126,.gen ⟨none,(.binOp .eql 9 (t 121) (t 125) 9),4,"",#[],none⟩,some (119,true)⟩,⟨some 127,.pick (t 119) (t 126) (c (.bool false)),some (117,false)⟩,⟨some 128,.pick (t 117) (c (.bool true)) (t 127),none⟩,⟨some 10,m (t 128),none⟩]) .ret))))))))))))))
def q2c:q0h:=⟨5,129,[.tmp 10],q4Z⟩
theorem q7z:FOK Tryz.prog 5 q2c:=FOK.of [[11,14,55,56,57],[11,14,20,98,99,100],[0,1,2,3,4,5,6,7,8,9,10,12,13,14,15,11,16,17,18,19]] Tryz.func5 (by kernel_rfl) (by kernel_rfl)
def q2v : q0f := (.seq (.ops [⟨some 22,.int .lss (t 21) (t 20),none⟩]) (.seq (.cond (t 22) .skip (.exit 0)) (.seq (.block 1 (.seq (.ops [⟨some 23,m (t 21),none⟩,⟨some 24,.iaddr (t 19) (t 21) 1,none⟩,⟨some 25,.load (t 24) none,none⟩,⟨some 10,m (t 23),none⟩,⟨some 11,m (t 25),none⟩]) (.seq (.ops [⟨some 26,m (t 11),none⟩,⟨some 27,m (t 0),none⟩,⟨some 28,.gen ⟨none,(.binOp .eql 9 (t 26) (t 27) 9),4,"",#[],none⟩,none⟩]) (.cond (t 28) (.ops [⟨some 29,m (t 10),none⟩,⟨some 9,m (t 29),none⟩]) .skip)))) (.ops [⟨some 30,.int .add (t 21) (c (.int .i64 1)),none⟩,⟨some 21,m (t 30),none⟩]))))
def q2w:q0f:=(.seq (.ops [⟨some 62,.int .lss (t 61) (t 60),none⟩]) (.seq (.cond (t 62) .skip (.exit 2)) (.seq (.block 3 (.seq (.ops [⟨some 63,m (t 61),none⟩,⟨some 64,.iaddr (t 59) (t 61) 1,none⟩,⟨some 65,.load (t 64) none,none⟩,⟨some 17,m (t 63),none⟩,⟨some 18,m (t 65),none⟩]) (.seq (.ops [⟨some 66,m (t 16),none⟩,⟨some 67,m (t 18),none⟩,⟨some 68,.conv .u8 (t 67),none⟩,⟨some 69,.bslice 5 1 1 [(.int .u8 0)] [(0,1,(t 68))],none⟩,⟨some 70,.append (t 66) (t 69) 5 1 1,none⟩,⟨some 16,m (t 70),none⟩]) (.seq (.ops [⟨some 71,m (t 3),none⟩,⟨some 72,.int .rem (t 71) (c (.int .u8 3)),none⟩,⟨some 73,.int .eql (t 72) (c (.int .u8 1)),none⟩,⟨some 74,m (t 73),none⟩,⟨some 75,m (t 17),some (74,true)⟩,⟨some 76,m (t 2),some (74,true)⟩,⟨some 77,.len false (t 76),some (74,true)⟩,⟨some 78,.int .lss (t 75) (t 77),some (74,true)⟩,⟨some 79,.pick (t 74) (t 78) (c (.bool false)),none⟩,⟨some 80,m (t 79),none⟩,⟨some 81,m (t 2),some (80,true)⟩,⟨some 82,m (t 17),some (80,true)⟩,⟨some 83,.iaddr (t 81) (t 82) 1,some (80,true)⟩,⟨some 84,.load (t 83) none,some (80,true)⟩,⟨some 85,.int .lss (t 84) (c (.int .u8 20)),some (80,true)⟩,⟨some 86,.pick (t 80) (t 85) (c (.bool false)),none⟩]) (.cond (t 86) (.ops [⟨some 87,m (t 16),none⟩,⟨some 88,m (t 2),none⟩,⟨some 89,m (t 17),none⟩,⟨some 90,.iaddr (t 88) (t 89) 1,none⟩,⟨some 91,.load (t 90) none,none⟩,⟨some 92,.int .mul (t 91) (c (.int .u8 12)),none⟩,⟨some 93,.bslice 5 1 1 [(.int .u8 0)] [(0,1,(t 92))],none⟩,⟨some 94,.append (t 87) (t 93) 5 1 1,none⟩,⟨some 16,m (t 94),none⟩]) .skip))))) (.ops [⟨some 95,.int .add (t 61) (c (.int .i64 1)),none⟩,⟨some 61,m (t 95),none⟩]))))
def q6h:q0f:=(.seq (.ops [⟨some 8,m (c (.slice none 0 0)),none⟩]) (.seq (.ops [⟨some 9,m (c (.int .i64 0)),none⟩]) (.seq (.seq (.ops [⟨some 19,.call (.func 27) [],none⟩,⟨some 20,.len false (t 19),none⟩,⟨some 21,m (c (.int .i64 0)),none⟩]) (.block 0 (.loop [0,1,2,3,9,19,20,21] q2v))) (.seq (.seq (.ops [⟨some 31,m (t 3),none⟩,⟨some 32,.int .rem (t 31) (c (.int .u8 3)),none⟩,⟨some 33,.int .eql (t 32) (c (.int .u8 0)),none⟩]) (.cond (t 33) (.seq (.ops [⟨some 34,m (t 2),none⟩,⟨some 35,m (t 2),none⟩,⟨some 36,.len false (t 35),none⟩,⟨some 37,.min2 (t 36) (c (.int .i64 60)),none⟩,⟨some 38,.slice (t 34) none (some (t 37)) 1,none⟩,⟨some 8,m (t 38),none⟩]) .ret) .skip)) (.seq (.ops [⟨some 40,m (t 0),none⟩,⟨some 41,.call (.func 30) [(t 40)],none⟩,⟨some 39,m (t 41),none⟩,⟨some 42,.ext (t 39) 0,none⟩,⟨some 43,.ext (t 39) 1,none⟩,⟨some 12,m (t 42),none⟩,⟨some 13,m (t 43),none⟩]) (.seq (.seq (.ops [⟨some 44,m (t 12),none⟩,⟨some 45,.isNil 3 false (t 44),none⟩]) (.cond (t 45) (.seq (.ops [⟨some 8,m (c (.slice none 0 0)),none⟩]) .ret) .skip)) (.seq (.ops [⟨some 47,m (t 12),none⟩,⟨some 48,m (t 9),none⟩,⟨some 49,m (t 1),none⟩,⟨some 50,.call (.func 31) [(t 48),(t 49)],none⟩,⟨some 51,.call (.func 21) [(t 47),(t 50)],none⟩,⟨some 52,.call (.func 20) [(t 51)],none⟩,⟨some 46,m (t 52),none⟩,⟨some 53,.ext (t 46) 0,none⟩,⟨some 54,.ext (t 46) 1,none⟩,⟨some 15,.alloc [(.int .i64 0),(.int .i64 0),(.slice none 0 0),(.int .i64 0)] 36,none⟩,⟨some 14,m (t 53),none⟩,⟨none,.store (t 15) (t 54) 4,none⟩]) (.seq (.ops [⟨some 16,m (c (.slice none 0 0)),none⟩]) (.seq (.seq (.ops [⟨some 55,m (t 14),none⟩,⟨some 56,m (t 14),none⟩,⟨some 57,.len false (t 56),none⟩,⟨some 58,.min2 (t 57) (c (.int .i64 100)),none⟩,⟨some 59,.slice (t 55) none (some (t 58)) 1,none⟩,⟨some 60,.len false (t 59),none⟩,⟨some 61,m (c (.int .i64 0)),none⟩]) (.block 2 (.loop [2,3,16,59,60,61] q2w))) (.seq (.ops [⟨some 96,m (t 16),none⟩,⟨some 8,m (t 96),none⟩]) .ret))))))))))
def q2Y:q0h:=⟨4,97,[.tmp 8],q6h⟩
theorem q9f:FOK Tryz.prog 12 q2Y:=FOK.of [[0,1,2,3,9,19,20,21],[2,3,16,59,60,61]] Tryz.func12 (by kernel_rfl) (by kernel_rfl)
def q4O:q0f:=(.seq (.ops [⟨some 11,.int .lss (t 10) (t 9),none⟩]) (.seq (.cond (t 11) .skip (.exit 0)) (.seq (.block 1 (.seq (.ops [⟨some 12,.iaddr (t 8) (t 10) 1,none⟩,⟨some 13,.load (t 12) none,none⟩,⟨some 3,m (t 13),none⟩]) (.seq (.ops [⟨some 15,m (t 3),none⟩,⟨some 16,.call (.func 18) [(t 15)],none⟩,⟨some 14,m (t 16),none⟩,⟨some 17,.ext (t 14) 0,none⟩,⟨some 18,.ext (t 14) 1,none⟩,⟨some 4,m (t 17),none⟩,⟨some 5,m (t 18),none⟩]) (.draw [⟨some 19,m (t 1),none⟩,⟨some 20,m (t 1),none⟩,⟨some 21,m (t 1),none⟩,⟨some 22,.nilChk (t 21),none⟩,⟨some 23,.faddr (t 22) 0,none⟩,⟨some 24,.load (t 23) none,none⟩,⟨some 25,m (t 4),none⟩,⟨some 28,m (t 1),none⟩,⟨some 29,.nilChk (t 28),none⟩,⟨some 30,.faddr (t 29) 1,none⟩,⟨some 31,.load (t 30) none,none⟩,⟨some 26,.bslice 55 1 1 [.nilIface] [(0,1,(t 25))],none⟩,⟨some 32,.bslice 46 1 1 [(.complex .f64 0 0)] [(0,1,(.const (.complex .f64 0 0)))],none⟩,⟨some 27,.append (t 24) (t 26) 55 1 16,none⟩,⟨some 33,.append (t 31) (t 32) 46 1 16,none⟩,⟨some 34,.nilChk (t 19),none⟩,⟨some 35,.faddr (t 34) 0,none⟩,⟨none,.store (t 35) (t 27) 1,none⟩,⟨some 36,.nilChk (t 20),none⟩,⟨some 37,.faddr (t 36) 1,none⟩,⟨none,.store (t 37) (t 33) 1,none⟩])))) (.ops [⟨some 38,.int .add (t 10) (c (.int .i64 1)),none⟩,⟨some 10,m (t 38),none⟩]))))
def k0Y:q0f:=(.seq (.ops [⟨some 0,m (c (.pointer none)),none⟩]) (.seq (.ops [⟨some 6,.build [(.slice none 0 0),(.slice none 0 0)] [],none⟩,⟨some 7,.box (t 6) 83,none⟩,⟨some 1,m (t 7),none⟩]) (.seq (.seq (.ops [⟨some 8,.call (.func 27) [],none⟩,⟨some 9,.len false (t 8),none⟩,⟨some 10,m (c (.int .i64 0)),none⟩]) (.block 0 (.loop [1,8,9,10] q4O))) (.seq (.ops [⟨some 39,m (t 1),none⟩,⟨some 0,m (t 39),none⟩]) .ret))))
def q6i:q0h:=⟨0,40,[.tmp 0],k0Y⟩
theorem k5t:FOK Tryz.prog 13 q6i:=FOK.of [[1,8,9,10],[0,1,2,3,4,5,6,9,10,11,12,7,13,8,14,15,16,17,18,19,20]] Tryz.func13 (by kernel_rfl) (by kernel_rfl)
def q1q : q0f := (.seq (.ops [⟨some 20,.int .lss (t 19) (t 18),none⟩]) (.seq (.cond (t 20) .skip (.exit 2)) (.seq (.block 3 (.seq (.ops [⟨some 21,m (t 19),none⟩,⟨some 22,.iaddr (t 17) (t 19) 1,none⟩,⟨some 23,.load (t 22) none,none⟩,⟨some 6,m (t 21),none⟩,⟨some 7,m (t 23),none⟩]) (.draw [⟨some 24,m (t 0),none⟩,⟨some 25,.nilChk (t 24),none⟩,⟨some 26,.faddr (t 25) 1,none⟩,⟨some 27,.load (t 26) none,none⟩,⟨some 28,m (t 6),none⟩,⟨some 29,.iaddr (t 27) (t 28) 1,none⟩,⟨some 30,.load (t 29) none,none⟩,⟨some 31,m (t 7),none⟩,⟨some 32,m (t 5),none⟩,⟨some 33,.conv .i64 (t 32),none⟩,⟨some 34,.mop (.inv (t 31) "Put" [(t 33)]),none⟩,⟨some 35,.call (.func 32) [(t 34)],none⟩,⟨some 36,.gen ⟨none,(.binOp .add 46 (t 30) (t 35) 46),46,"",#[],none⟩,none⟩,⟨some 37,.iaddr (t 27) (t 28) 1,none⟩,⟨none,.store (t 37) (t 36) 1,none⟩]))) (.ops [⟨some 38,.int .add (t 19) (c (.int .i64 1)),none⟩,⟨some 19,m (t 38),none⟩]))))
def q1r:q0f:=(.seq (.ops [⟨some 11,.int .lss (t 10) (t 9),none⟩]) (.seq (.cond (t 11) .skip (.exit 0)) (.seq (.block 1 (.seq (.ops [⟨some 12,.iaddr (t 8) (t 10) 1,none⟩,⟨some 13,.load (t 12) none,none⟩,⟨some 5,m (t 13),none⟩]) (.seq (.ops [⟨some 14,m (t 0),none⟩,⟨some 15,.nilChk (t 14),none⟩,⟨some 16,.faddr (t 15) 0,none⟩,⟨some 17,.load (t 16) none,none⟩,⟨some 18,.len false (t 17),none⟩,⟨some 19,m (c (.int .i64 0)),none⟩]) (.block 2 (.loop [0,5,8,9,10,17,18,19] q1q))))) (.ops [⟨some 39,.int .add (t 10) (c (.int .i64 1)),none⟩,⟨some 10,m (t 39),none⟩]))))
def q4r:q0f:=(.seq (.ops [⟨some 8,m (t 1),none⟩,⟨some 9,.len false (t 8),none⟩,⟨some 10,m (c (.int .i64 0)),none⟩]) (.block 0 (.loop [0,8,9,10] q1r)))
def q1S:q0h:=⟨2,40,[],q4r⟩
theorem q7j:FOK Tryz.prog 14 q1S:=FOK.of [[0,8,9,10],[0,5,8,9,10,17,18,19],[0,1,2,3,4,5,6,7,8,9,10,11,12,13,14]] Tryz.func14 (by kernel_rfl) (by kernel_rfl)
def q1s : q0f := (.seq (.ops [⟨some 12,.int .lss (t 11) (t 10),none⟩]) (.seq (.cond (t 12) .skip (.exit 0)) (.seq (.block 1 (.seq (.ops [⟨some 13,m (t 11),none⟩,⟨some 14,.iaddr (t 9) (t 11) 1,none⟩,⟨some 15,.load (t 14) none,none⟩,⟨some 4,m (t 13),none⟩,⟨some 5,m (t 15),none⟩]) (.seq (.draw [⟨some 16,m (t 0),none⟩,⟨some 17,.nilChk (t 16),none⟩,⟨some 18,.faddr (t 17) 1,none⟩,⟨some 19,.load (t 18) none,none⟩,⟨some 20,m (t 4),none⟩,⟨some 21,.iaddr (t 19) (t 20) 1,none⟩,⟨some 22,.load (t 21) none,none⟩,⟨some 23,m (t 5),none⟩,⟨some 24,.mop (.inv (t 23) "End" []),none⟩,⟨some 25,.call (.func 32) [(t 24)],none⟩,⟨some 26,.gen ⟨none,(.binOp .add 46 (t 22) (t 25) 46),46,"",#[],none⟩,none⟩,⟨some 27,.iaddr (t 19) (t 20) 1,none⟩,⟨none,.store (t 27) (t 26) 1,none⟩]) (.draw [⟨some 28,m (t 3),none⟩,⟨some 30,m (t 4),none⟩,⟨some 33,m (t 0),none⟩,⟨some 34,.nilChk (t 33),none⟩,⟨some 35,.faddr (t 34) 1,none⟩,⟨some 36,.load (t 35) none,none⟩,⟨some 37,m (t 4),none⟩,⟨some 38,.iaddr (t 36) (t 37) 1,none⟩,⟨some 39,.load (t 38) none,none⟩,⟨some 29,.call (.func 27) [],none⟩,⟨some 31,.iaddr (t 29) (t 30) 1,none⟩,⟨some 32,.load (t 31) none,none⟩,⟨some 40,.build [(.string ⟨#[]⟩),(.complex .f64 0 0)] [(0,1,(t 32)),(1,1,(t 39))],none⟩,⟨some 41,.bslice 48 1 2 [(.string ⟨#[]⟩),(.complex .f64 0 0)] [(0,2,(t 40))],none⟩,⟨some 42,.append (t 28) (t 41) 48 2 32,none⟩,⟨some 3,m (t 42),none⟩])))) (.ops [⟨some 43,.int .add (t 11) (c (.int .i64 1)),none⟩,⟨some 11,m (t 43),none⟩]))))
def q4s:q0f:=(.seq (.ops [⟨some 2,m (c (.slice none 0 0)),none⟩]) (.seq (.ops [⟨some 3,m (c (.slice none 0 0)),none⟩]) (.seq (.seq (.ops [⟨some 6,m (t 0),none⟩,⟨some 7,.nilChk (t 6),none⟩,⟨some 8,.faddr (t 7) 0,none⟩,⟨some 9,.load (t 8) none,none⟩,⟨some 10,.len false (t 9),none⟩,⟨some 11,m (c (.int .i64 0)),none⟩]) (.block 0 (.loop [0,3,9,10,11] q1s))) (.seq (.ops [⟨some 44,m (t 3),none⟩,⟨some 45,.call (.func 33) [(t 44),(.func 34)],none⟩]) (.seq (.ops [⟨some 46,m (t 3),none⟩,⟨some 2,m (t 46),none⟩]) .ret)))))
def q1T:q0h:=⟨1,47,[.tmp 2],q4s⟩
theorem q7k:FOK Tryz.prog 15 q1T:=FOK.of [[0,3,9,10,11],[0,1,2,3,4,5,6,7,8,9,10,11,12],[0,2,5,6,7,8,9,10,11,1,3,4,12,13,14,15]] Tryz.func15 (by kernel_rfl) (by kernel_rfl)
def q9T:q0f:=(.seq (.ops [⟨some 2,m (c (.string ⟨#[]⟩)),none⟩]) (.seq (.seq (.ops [⟨some 4,m (t 0),none⟩,⟨some 5,.call (.func 37) [(t 4),(.func 38)],none⟩,⟨some 6,.not (t 5),none⟩]) (.cond (t 6) (.seq (.ops [⟨some 2,m (c (.string ⟨#[97,115,99,105,105]⟩)),none⟩]) .ret) .skip)) (.seq (.ops [⟨some 7,.call (.func 13) [],none⟩,⟨some 3,m (t 7),none⟩]) (.seq (.ops [⟨some 8,m (t 3),none⟩,⟨some 9,m (t 0),none⟩,⟨some 10,.call (.func 14) [(t 8),(t 9)],none⟩]) (.seq (.ops [⟨some 11,m (t 3),none⟩,⟨some 12,.call (.func 15) [(t 11)],none⟩,⟨some 13,.iaddr (t 12) (c (.int .i64 0)) 2,none⟩,⟨some 14,.faddr (t 13) 0,none⟩,⟨some 15,.load (t 14) none,none⟩,⟨some 2,m (t 15),none⟩]) .ret)))))
def q5y:q0h:=⟨1,16,[.tmp 2],q9T⟩
theorem k3D:FOK Tryz.prog 16 q5y:=FOK.of [] Tryz.func16 (by kernel_rfl) (by kernel_rfl)
def q1E:q0f:=(.seq (.ops [⟨some 34,.int .lss (t 33) (t 32),none⟩]) (.seq (.cond (t 34) .skip (.exit 1)) (.seq (.block 2 (.seq (.ops [⟨some 35,.iaddr (t 31) (t 33) 1,none⟩,⟨some 36,.load (t 35) none,none⟩,⟨some 7,m (t 36),none⟩]) (.seq (.ops [⟨some 37,m (t 7),none⟩,⟨some 38,.conv .i64 (t 37),none⟩,⟨some 39,.int .rem (t 38) (c (.int .i64 96)),none⟩,⟨some 40,.int .add (c (.int .i64 3584)) (t 39),none⟩,⟨some 8,m (t 40),none⟩]) (.seq (.seq (.ops [⟨some 41,m (t 7),none⟩,⟨some 42,.int .gtr (t 41) (c (.int .u8 200)),none⟩]) (.cond (t 42) (.ops [⟨some 43,m (t 7),none⟩,⟨some 44,.conv .i64 (t 43),none⟩,⟨some 45,.int .sub (t 44) (c (.int .i64 120)),none⟩,⟨some 8,m (t 45),none⟩]) .skip)) (.ops [⟨some 46,m (t 5),none⟩,⟨some 47,m (t 8),none⟩,⟨some 48,.bslice 3 1 1 [(.int .i64 0)] [(0,1,(t 47))],none⟩,⟨some 49,.append (t 46) (t 48) 3 1 8,none⟩,⟨some 5,m (t 49),none⟩]))))) (.ops [⟨some 50,.int .add (t 33) (c (.int .i64 1)),none⟩,⟨some 33,m (t 50),none⟩]))))
def q5a : q0f := (.seq (.ops [⟨some 4,m (c (.slice none 0 0)),none⟩]) (.seq (.seq (.ops [⟨some 9,.call (.func 52) [],none⟩,⟨some 10,m (t 0),none⟩,⟨some 11,.iaddr (t 9) (t 10) 1,none⟩,⟨some 12,.load (t 11) none,none⟩]) (.block 0 (.seq (.seq (.ops [⟨some 14,.gen ⟨none,(.binOp .eql 9 (t 12) (c (.string ⟨#[118,105,115,99,105,105]⟩)) 9),4,"",#[],none⟩,none⟩,⟨some 13,m (t 14),none⟩]) (.cond (t 13) .skip (.seq (.ops [⟨some 15,.gen ⟨none,(.binOp .eql 9 (t 12) (c (.string ⟨#[116,99,118,110,51]⟩)) 9),4,"",#[],none⟩,none⟩,⟨some 13,m (t 15),none⟩]) (.cond (t 13) .skip (.ops [⟨some 16,.gen ⟨none,(.binOp .eql 9 (t 12) (c (.string ⟨#[118,110,105]⟩)) 9),4,"",#[],none⟩,none⟩,⟨some 13,m (t 16),none⟩]))))) (.cond (t 13) (.seq (.ops [⟨some 17,m (t 1),none⟩,⟨some 18,.call (.func 53) [(t 17)],none⟩,⟨some 4,m (t 18),none⟩]) .ret) (.seq (.ops [⟨some 20,.gen ⟨none,(.binOp .eql 9 (t 12) (c (.string ⟨#[116,115,99,105,105]⟩)) 9),4,"",#[],none⟩,none⟩,⟨some 19,m (t 20),none⟩]) (.cond (t 19) (.seq (.ops [⟨some 21,m (t 1),none⟩,⟨some 22,.call (.func 54) [(t 21)],none⟩,⟨some 4,m (t 22),none⟩]) .ret) (.seq (.ops [⟨some 24,.gen ⟨none,(.binOp .eql 9 (t 12) (c (.string ⟨#[105,115,99,105,105]⟩)) 9),4,"",#[],none⟩,none⟩,⟨some 23,m (t 24),none⟩]) (.cond (t 23) (.seq (.ops [⟨some 25,m (t 1),none⟩,⟨some 26,.call (.func 55) [(t 25)],none⟩,⟨some 4,m (t 26),none⟩]) .ret) .skip)))))))) (.seq (.ops [⟨some 5,m (c (.slice none 0 0)),none⟩]) (.seq (.seq (.ops [⟨some 27,m (t 1),none⟩,⟨some 28,m (t 1),none⟩,⟨some 29,.len false (t 28),none⟩,⟨some 30,.min2 (t 29) (c (.int .i64 60)),none⟩,⟨some 31,.slice (t 27) none (some (t 30)) 1,none⟩,⟨some 32,.len false (t 31),none⟩,⟨some 33,m (c (.int .i64 0)),none⟩]) (.block 1 (.loop [5,31,32,33] q1E))) (.seq (.ops [⟨some 51,m (t 5),none⟩,⟨some 4,m (t 51),none⟩]) .ret)))))
def q2d:q0h:=⟨2,52,[.tmp 4],q5a⟩
theorem q7A:FOK Tryz.prog 31 q2d:=FOK.of [[5,31,32,33]] Tryz.func31 (by kernel_rfl) (by kernel_rfl)
def q3C : q0f := (.seq (.ops [⟨some 23,.int .lss (t 22) (t 21),none⟩]) (.seq (.cond (t 23) .skip (.exit 2)) (.seq (.block 3 (.seq (.ops [⟨some 24,.iaddr (t 20) (t 22) 1,none⟩,⟨some 25,.load (t 24) none,none⟩,⟨some 7,m (t 25),none⟩]) (.seq (.ops [⟨some 26,m (t 7),none⟩,⟨some 27,.int .gtr (t 26) (c (.int .i64 127)),none⟩]) (.cond (t 27) (.ops [⟨some 28,m (t 3),none⟩,⟨some 29,.gen ⟨none,(.binOp .add 46 (t 28) (c (.complex .f64 0 4607182418800017408)) 46),46,"",#[],none⟩,none⟩,⟨some 3,m (t 29),none⟩]) .skip)))) (.ops [⟨some 30,.int .add (t 22) (c (.int .i64 1)),none⟩,⟨some 22,m (t 30),none⟩]))))
def q3D : q0f := (.seq (.ops [⟨some 11,.int .lss (t 10) (t 9),none⟩]) (.seq (.cond (t 11) .skip (.exit 0)) (.seq (.block 1 (.seq (.ops [⟨some 12,.iaddr (t 8) (t 10) 4,none⟩,⟨some 13,.load (t 12) (some 4),none⟩,⟨some 5,.alloc [(.int .i64 0),(.int .i64 0),(.slice none 0 0),(.int .i64 0)] 36,none⟩,⟨none,.store (t 5) (t 13) 4,none⟩]) (.seq (.seq (.ops [⟨some 14,.faddr (t 5) 3,none⟩,⟨some 15,.load (t 14) none,none⟩,⟨some 16,.int .neq (t 15) (c (.int .i64 0)),none⟩]) (.cond (t 16) (.ops [⟨some 17,m (t 3),none⟩,⟨some 18,.gen ⟨none,(.binOp .add 46 (t 17) (c (.complex .f64 4607182418800017408 0)) 46),46,"",#[],none⟩,none⟩,⟨some 3,m (t 18),none⟩]) .skip)) (.seq (.ops [⟨some 19,.faddr (t 5) 2,none⟩,⟨some 20,.load (t 19) none,none⟩,⟨some 21,.len false (t 20),none⟩,⟨some 22,m (c (.int .i64 0)),none⟩]) (.block 2 (.loop [3,8,9,10,20,21,22] q3C)))))) (.ops [⟨some 31,.int .add (t 10) (c (.int .i64 1)),none⟩,⟨some 10,m (t 31),none⟩]))))
def q8T:q0f:=(.seq (.ops [⟨some 2,m (c (.complex .f64 0 0)),none⟩]) (.seq (.ops [⟨some 3,m (c (.complex .f64 0 0)),none⟩]) (.seq (.seq (.ops [⟨some 8,m (t 0),none⟩,⟨some 9,.len false (t 8),none⟩,⟨some 10,m (c (.int .i64 0)),none⟩]) (.block 0 (.loop [3,8,9,10] q3D))) (.seq (.ops [⟨some 32,m (t 3),none⟩,⟨some 2,m (t 32),none⟩]) .ret))))
def q4P:q0h:=⟨1,33,[.tmp 2],q8T⟩
theorem k2y:FOK Tryz.prog 32 q4P:=FOK.of [[3,8,9,10],[3,8,9,10,20,21,22]] Tryz.func32 (by kernel_rfl) (by kernel_rfl)
def q3K : q0f := (.seq (.ops [⟨some 2,.box (t 0) 48,none⟩,⟨some 3,.box (t 1) 48,none⟩,⟨some 4,m (c (.int .i64 0)),none⟩]) (.seq (.draw [⟨some 5,.faddr (t 2) 1,none⟩,⟨some 6,.load (t 5) none,none⟩,⟨some 7,.gen ⟨none,(.call ⟨.builtin .real,#[(t 6)],#[46]⟩),49,"",#[],none⟩,none⟩,⟨some 8,.faddr (t 3) 1,none⟩,⟨some 9,.load (t 8) none,none⟩,⟨some 10,.gen ⟨none,(.call ⟨.builtin .real,#[(t 9)],#[46]⟩),49,"",#[],none⟩,none⟩,⟨some 12,.faddr (t 2) 1,none⟩,⟨some 13,.load (t 12) none,none⟩,⟨some 14,.gen ⟨none,(.call ⟨.builtin .imag,#[(t 13)],#[46]⟩),49,"",#[],none⟩,none⟩,⟨some 15,.faddr (t 3) 1,none⟩,⟨some 16,.load (t 15) none,none⟩,⟨some 17,.gen ⟨none,(.call ⟨.builtin .imag,#[(t 16)],#[46]⟩),49,"",#[],none⟩,none⟩,⟨some 11,.call (.func 36) [(t 7),(t 10)],none⟩,⟨some 18,.call (.func 36) [(t 14),(t 17)],none⟩,⟨some 19,.bslice 3 2 1 [(.int .i64 0)] [(0,1,(t 11)),(1,1,(t 18))],none⟩,⟨some 20,.call (.func 35) [(t 19)],none⟩,⟨some 4,m (t 20),none⟩]) .ret))
def q1t:q0h:=⟨2,21,[.tmp 4],q3K⟩
theorem q6u:FOK Tryz.prog 34 q1t:=FOK.of [[0,1,2,3,4,5,7,8,9,10,11,12,6,13,14,15,16]] Tryz.func34 (by kernel_rfl) (by kernel_rfl)
def q4c:q0f:=(.seq (.ops [⟨some 9,.int .lss (t 8) (t 7),none⟩]) (.seq (.cond (t 9) .skip (.exit 0)) (.seq (.block 1 (.seq (.ops [⟨some 10,.iaddr (t 6) (t 8) 1,none⟩,⟨some 11,.load (t 10) none,none⟩,⟨some 5,m (t 11),none⟩]) (.seq (.ops [⟨some 12,m (t 5),none⟩,⟨some 13,m (t 3),none⟩,⟨some 14,.int .neq (t 12) (t 13),none⟩]) (.cond (t 14) (.seq (.ops [⟨some 15,m (t 5),none⟩,⟨some 2,m (t 15),none⟩]) .ret) .skip)))) (.ops [⟨some 16,.int .add (t 8) (c (.int .i64 1)),none⟩,⟨some 8,m (t 16),none⟩]))))
def q9U:q0f:=(.seq (.ops [⟨some 2,m (c (.int .i64 0)),none⟩]) (.seq (.ops [⟨some 3,m (c (.int .i64 0)),none⟩]) (.seq (.seq (.ops [⟨some 6,m (t 0),none⟩,⟨some 7,.len false (t 6),none⟩,⟨some 8,m (c (.int .i64 0)),none⟩]) (.block 0 (.loop [3,6,7,8] q4c))) (.seq (.ops [⟨some 17,m (t 3),none⟩,⟨some 2,m (t 17),none⟩]) .ret))))
def q5z:q0h:=⟨1,18,[.tmp 2],q9U⟩
theorem k3E:FOK Tryz.prog 35 q5z:=FOK.of [[3,6,7,8]] Tryz.func35 (by kernel_rfl) (by kernel_rfl)
def q4t : q0f := (.seq (.ops [⟨some 4,m (c (.int .i64 0)),none⟩]) (.seq (.ops [⟨some 7,m (t 0),none⟩,⟨some 8,.call (.func 57) [(t 7)],none⟩,⟨some 5,m (t 8),none⟩]) (.seq (.ops [⟨some 9,m (t 1),none⟩,⟨some 10,.call (.func 57) [(t 9)],none⟩,⟨some 6,m (t 10),none⟩]) (.seq (.seq (.ops [⟨some 11,m (t 5),none⟩]) (.cond (t 11) (.seq (.seq (.ops [⟨some 12,m (t 6),none⟩]) (.cond (t 12) (.seq (.ops [⟨some 4,m (c (.int .i64 0)),none⟩]) .ret) .skip)) (.seq (.ops [⟨some 4,m (c (.int .i64 (-1))),none⟩]) .ret)) .skip)) (.seq (.seq (.ops [⟨some 13,m (t 6),none⟩]) (.cond (t 13) (.seq (.ops [⟨some 4,m (c (.int .i64 1)),none⟩]) .ret) .skip)) (.seq (.seq (.ops [⟨some 14,m (t 0),none⟩,⟨some 15,m (t 1),none⟩,⟨some 16,.gen ⟨none,(.binOp .lss 49 (t 14) (t 15) 49),4,"",#[],none⟩,none⟩]) (.cond (t 16) (.seq (.ops [⟨some 4,m (c (.int .i64 (-1))),none⟩]) .ret) .skip)) (.seq (.seq (.ops [⟨some 17,m (t 0),none⟩,⟨some 18,m (t 1),none⟩,⟨some 19,.gen ⟨none,(.binOp .gtr 49 (t 17) (t 18) 49),4,"",#[],none⟩,none⟩]) (.cond (t 19) (.seq (.ops [⟨some 4,m (c (.int .i64 1)),none⟩]) .ret) .skip)) (.seq (.ops [⟨some 4,m (c (.int .i64 0)),none⟩]) .ret))))))))
def q1U:q0h:=⟨2,20,[.tmp 4],q4t⟩
theorem q7l:FOK Tryz.prog 36 q1U:=FOK.of [] Tryz.func36 (by kernel_rfl) (by kernel_rfl)
def q1Z:q0f:=(.seq (.ops [⟨some 4,m (c (.bool false)),none⟩]) (.seq (.ops [⟨some 5,m (t 0),none⟩,⟨some 6,m (t 1),none⟩,⟨some 7,.call (.func 58) [(t 5),(t 6)],none⟩,⟨some 8,.int .geq (t 7) (c (.int .i64 0)),none⟩,⟨some 4,m (t 8),none⟩]) .ret))
def q0H:q0h:=⟨2,9,[.tmp 4],q1Z⟩
theorem q3H:FOK Tryz.prog 37 q0H:=FOK.of [] Tryz.func37 (by kernel_rfl) (by kernel_rfl)
def q7T:q0f:=(.seq (.ops [⟨some 2,m (c (.bool false)),none⟩]) (.seq (.ops [⟨some 3,m (t 0),none⟩,⟨some 4,.int .gtr (t 3) (c (.int .u8 127)),none⟩,⟨some 2,m (t 4),none⟩]) .ret))
def q4d:q0h:=⟨1,5,[.tmp 2],q7T⟩
theorem k1k:FOK Tryz.prog 38 q4d:=FOK.of [] Tryz.func38 (by kernel_rfl) (by kernel_rfl)
def q9g:q0f:=(.seq (.ops [⟨some 0,m (c (.slice none 0 0)),none⟩]) (.seq (.ops [⟨some 1,.bslice 9 8 1 [(.string ⟨#[]⟩)] [(0,1,(.const (.string ⟨#[117,116,102,45,56]⟩))),(1,1,(.const (.string ⟨#[97,115,99,105,105]⟩))),(2,1,(.const (.string ⟨#[118,105,115,99,105,105]⟩))),(3,1,(.const (.string ⟨#[116,99,118,110,51]⟩))),(4,1,(.const (.string ⟨#[118,110,105]⟩))),(5,1,(.const (.string ⟨#[116,105,115,45,54,50,48]⟩))),(6,1,(.const (.string ⟨#[116,115,99,105,105]⟩))),(7,1,(.const (.string ⟨#[105,115,99,105,105]⟩)))],none⟩,⟨some 0,m (t 1),none⟩]) .ret))
def q5L:q0h:=⟨0,2,[.tmp 0],q9g⟩
theorem q8E:FOK Tryz.prog 52 q5L:=FOK.of [] Tryz.func52 (by kernel_rfl) (by kernel_rfl)
def q1x:q0f:=(.seq (.ops [⟨some 22,.int .lss (t 21) (t 20),none⟩]) (.seq (.cond (t 22) .skip (.exit 0)) (.seq (.block 1 (.seq (.ops [⟨some 23,.iaddr (t 19) (t 21) 1,none⟩,⟨some 24,.load (t 23) none,none⟩,⟨some 7,m (t 24),none⟩]) (.seq (.ops [⟨some 26,m (t 7),none⟩,⟨some 27,.conv .i64 (t 26),none⟩,⟨some 28,.int .rem (t 27) (c (.int .i64 148)),none⟩,⟨some 29,.call (.func 77) [(t 28)],none⟩,⟨some 25,m (t 29),none⟩,⟨some 30,.ext (t 25) 0,none⟩,⟨some 31,.ext (t 25) 1,none⟩,⟨some 32,.ext (t 25) 2,none⟩,⟨some 8,.alloc [(.int .i64 0),(.complex .f64 0 0)] 154,none⟩,⟨none,.store (t 8) (t 30) 2,none⟩,⟨some 9,m (t 31),none⟩,⟨some 10,m (t 32),none⟩]) (.seq (.seq (.ops [⟨some 33,m (t 7),none⟩,⟨some 34,.int .gtr (t 33) (c (.int .u8 190)),none⟩]) (.cond (t 34) (.ops [⟨some 35,m (t 3),none⟩,⟨some 36,m (t 7),none⟩,⟨some 37,.int .rem (t 36) (c (.int .u8 8)),none⟩,⟨some 38,.iaddr (t 35) (t 37) 1,none⟩,⟨some 39,.load (t 38) none,none⟩,⟨some 9,m (t 39),none⟩]) .skip)) (.seq (.seq (.ops [⟨some 40,m (t 7),none⟩,⟨some 41,.int .lss (t 40) (c (.int .u8 6)),none⟩]) (.cond (t 41) (.ops [⟨some 42,m (t 7),none⟩,⟨some 43,.conv .i64 (t 42),none⟩,⟨some 44,.int .add (c (.int .i64 120)) (t 43),none⟩,⟨some 9,m (t 44),none⟩]) .skip)) (.ops [⟨some 45,m (t 5),none⟩,⟨some 46,m (t 9),none⟩,⟨some 47,.bslice 3 1 1 [(.int .i64 0)] [(0,1,(t 46))],none⟩,⟨some 48,.append (t 45) (t 47) 3 1 8,none⟩,⟨some 5,m (t 48),none⟩])))))) (.ops [⟨some 49,.int .add (t 21) (c (.int .i64 1)),none⟩,⟨some 21,m (t 49),none⟩]))))
def q6j:q0f:=(.seq (.ops [⟨some 2,m (c (.slice none 0 0)),none⟩]) (.seq (.ops [⟨some 12,.call (.func 76) [],none⟩,⟨some 11,m (t 12),none⟩,⟨some 13,.ext (t 11) 0,none⟩,⟨some 14,.ext (t 11) 1,none⟩,⟨some 3,m (t 13),none⟩,⟨some 4,m (t 14),none⟩]) (.seq (.ops [⟨some 5,m (c (.slice none 0 0)),none⟩]) (.seq (.seq (.ops [⟨some 15,m (t 0),none⟩,⟨some 16,m (t 0),none⟩,⟨some 17,.len false (t 16),none⟩,⟨some 18,.min2 (t 17) (c (.int .i64 60)),none⟩,⟨some 19,.slice (t 15) none (some (t 18)) 1,none⟩,⟨some 20,.len false (t 19),none⟩,⟨some 21,m (c (.int .i64 0)),none⟩]) (.block 0 (.loop [3,5,19,20,21] q1x))) (.seq (.ops [⟨some 50,m (t 5),none⟩,⟨some 2,m (t 50),none⟩]) .ret)))))
def q2Z:q0h:=⟨1,51,[.tmp 2],q6j⟩
theorem q9h:FOK Tryz.prog 53 q2Z:=FOK.of [[3,5,19,20,21]] Tryz.func53 (by kernel_rfl) (by kernel_rfl)
def q2x:q0f:=(.seq (.ops [⟨some 16,.int .lss (t 15) (t 14),none⟩]) (.seq (.cond (t 16) .skip (.exit 0)) (.seq (.block 1 (.seq (.ops [⟨some 17,.iaddr (t 13) (t 15) 1,none⟩,⟨some 18,.load (t 17) none,none⟩,⟨some 6,m (t 18),none⟩]) (.seq (.ops [⟨some 19,.call (.func 78) [],none⟩,⟨some 20,m (t 6),none⟩,⟨some 21,.int .rem (t 20) (c (.int .u8 22)),none⟩,⟨some 22,.iaddr (t 19) (t 21) 1,none⟩,⟨some 23,.load (t 22) none,none⟩,⟨some 7,m (t 23),none⟩]) (.seq (.seq (.ops [⟨some 24,m (t 6),none⟩,⟨some 25,.int .gtr (t 24) (c (.int .u8 140)),none⟩]) (.cond (t 25) (.ops [⟨some 26,m (t 3),none⟩,⟨some 27,m (t 6),none⟩,⟨some 28,.conv .i64 (t 27),none⟩,⟨some 29,m (t 3),none⟩,⟨some 30,.len false (t 29),none⟩,⟨some 31,.int .rem (t 28) (t 30),none⟩,⟨some 32,.iaddr (t 26) (t 31) 1,none⟩,⟨some 33,.load (t 32) none,none⟩,⟨some 7,m (t 33),none⟩]) .skip)) (.ops [⟨some 34,m (t 4),none⟩,⟨some 35,m (t 7),none⟩,⟨some 36,.bslice 3 1 1 [(.int .i64 0)] [(0,1,(t 35))],none⟩,⟨some 37,.append (t 34) (t 36) 3 1 8,none⟩,⟨some 4,m (t 37),none⟩]))))) (.ops [⟨some 38,.int .add (t 15) (c (.int .i64 1)),none⟩,⟨some 15,m (t 38),none⟩]))))
def q6k:q0f:=(.seq (.ops [⟨some 2,m (c (.slice none 0 0)),none⟩]) (.seq (.ops [⟨some 8,.bslice 3 13 1 [(.int .i64 0)] [(0,1,(.const (.int .i64 3014))),(1,1,(.const (.int .i64 3015))),(2,1,(.const (.int .i64 3016))),(3,1,(.const (.int .i64 3021))),(4,1,(.const (.int .i64 3006))),(5,1,(.const (.int .i64 3007))),(6,1,(.const (.int .i64 3008))),(7,1,(.const (.int .i64 3031))),(8,1,(.const (.int .i64 3018))),(9,1,(.const (.int .i64 3019))),(10,1,(.const (.int .i64 3020))),(11,1,(.const (.int .i64 2949))),(12,1,(.const (.int .i64 97)))],none⟩,⟨some 3,m (t 8),none⟩]) (.seq (.ops [⟨some 4,m (c (.slice none 0 0)),none⟩]) (.seq (.seq (.ops [⟨some 9,m (t 0),none⟩,⟨some 10,m (t 0),none⟩,⟨some 11,.len false (t 10),none⟩,⟨some 12,.min2 (t 11) (c (.int .i64 60)),none⟩,⟨some 13,.slice (t 9) none (some (t 12)) 1,none⟩,⟨some 14,.len false (t 13),none⟩,⟨some 15,m (c (.int .i64 0)),none⟩]) (.block 0 (.loop [3,4,13,14,15] q2x))) (.seq (.ops [⟨some 39,m (t 4),none⟩,⟨some 2,m (t 39),none⟩]) .ret)))))
def q3a:q0h:=⟨1,40,[.tmp 2],q6k⟩
theorem q9i:FOK Tryz.prog 54 q3a:=FOK.of [[3,4,13,14,15]] Tryz.func54 (by kernel_rfl) (by kernel_rfl)
def q1e:q0f:=(.seq (.ops [⟨some 13,.int .lss (t 12) (t 11),none⟩]) (.seq (.cond (t 13) .skip (.exit 0)) (.seq (.block 1 (.seq (.ops [⟨some 14,.iaddr (t 10) (t 12) 1,none⟩,⟨some 15,.load (t 14) none,none⟩,⟨some 5,m (t 15),none⟩]) (.block 2 (.seq (.ops [⟨some 26,m (t 5),none⟩,⟨some 27,.int .lss (t 26) (c (.int .u8 30)),none⟩,⟨some 25,m (t 27),none⟩]) (.cond (t 25) (.ops [⟨some 28,m (t 3),none⟩,⟨some 29,.bslice 3 10 1 [(.int .i64 0)] [(0,1,(.const (.int .i64 8204))),(1,1,(.const (.int .i64 8205))),(2,1,(.const (.int .i64 2404))),(3,1,(.const (.int .i64 97))),(4,1,(.const (.int .i64 2364))),(5,1,(.const (.int .i64 2381))),(6,1,(.const (.int .i64 2509))),(7,1,(.const (.int .i64 2492))),(8,1,(.const (.int .i64 2314))),(9,1,(.const (.int .i64 3349)))],none⟩,⟨some 30,m (t 5),none⟩,⟨some 31,.int .rem (t 30) (c (.int .u8 10)),none⟩,⟨some 32,.iaddr (t 29) (t 31) 1,none⟩,⟨some 33,.load (t 32) none,none⟩,⟨some 34,.bslice 3 1 1 [(.int .i64 0)] [(0,1,(t 33))],none⟩,⟨some 35,.append (t 28) (t 34) 3 1 8,none⟩,⟨some 3,m (t 35),none⟩]) (.seq (.ops [⟨some 37,m (t 5),none⟩,⟨some 38,.int .lss (t 37) (c (.int .u8 140)),none⟩,⟨some 36,m (t 38),none⟩]) (.cond (t 36) (.ops [⟨some 39,m (t 3),none⟩,⟨some 40,m (t 5),none⟩,⟨some 41,.conv .i64 (t 40),none⟩,⟨some 42,.int .rem (t 41) (c (.int .i64 128)),none⟩,⟨some 43,.int .add (c (.int .i64 2304)) (t 42),none⟩,⟨some 44,.bslice 3 1 1 [(.int .i64 0)] [(0,1,(t 43))],none⟩,⟨some 45,.append (t 39) (t 44) 3 1 8,none⟩,⟨some 3,m (t 45),none⟩]) (.seq (.ops [⟨some 47,m (t 5),none⟩,⟨some 48,.int .lss (t 47) (c (.int .u8 220)),none⟩,⟨some 46,m (t 48),none⟩]) (.cond (t 46) (.ops [⟨some 49,m (t 3),none⟩,⟨some 50,m (t 5),none⟩,⟨some 51,.conv .i64 (t 50),none⟩,⟨some 52,.int .rem (t 51) (c (.int .i64 128)),none⟩,⟨some 53,.int .add (c (.int .i64 2432)) (t 52),none⟩,⟨some 54,.bslice 3 1 1 [(.int .i64 0)] [(0,1,(t 53))],none⟩,⟨some 55,.append (t 49) (t 54) 3 1 8,none⟩,⟨some 3,m (t 55),none⟩]) (.ops [⟨some 16,m (t 3),none⟩,⟨some 17,m (t 5),none⟩,⟨some 18,.int .rem (t 17) (c (.int .u8 9)),none⟩,⟨some 19,.conv .i64 (t 18),none⟩,⟨some 20,.int .mul (c (.int .i64 128)) (t 19),none⟩,⟨some 21,.int .add (c (.int .i64 2304)) (t 20),none⟩,⟨some 22,.int .add (t 21) (c (.int .i64 21)),none⟩,⟨some 23,.bslice 3 1 1 [(.int .i64 0)] [(0,1,(t 22))],none⟩,⟨some 24,.append (t 16) (t 23) 3 1 8,none⟩,⟨some 3,m (t 24),none⟩])))))))))) (.ops [⟨some 56,.int .add (t 12) (c (.int .i64 1)),none⟩,⟨some 12,m (t 56),none⟩]))))
def q5b:q0f:=(.seq (.ops [⟨some 2,m (c (.slice none 0 0)),none⟩]) (.seq (.ops [⟨some 3,m (c (.slice none 0 0)),none⟩]) (.seq (.seq (.ops [⟨some 6,m (t 0),none⟩,⟨some 7,m (t 0),none⟩,⟨some 8,.len false (t 7),none⟩,⟨some 9,.min2 (t 8) (c (.int .i64 60)),none⟩,⟨some 10,.slice (t 6) none (some (t 9)) 1,none⟩,⟨some 11,.len false (t 10),none⟩,⟨some 12,m (c (.int .i64 0)),none⟩]) (.block 0 (.loop [3,10,11,12] q1e))) (.seq (.ops [⟨some 57,m (t 3),none⟩,⟨some 2,m (t 57),none⟩]) .ret))))
def q2e:q0h:=⟨1,58,[.tmp 2],q5b⟩
theorem q7B:FOK Tryz.prog 55 q2e:=FOK.of [[3,10,11,12]] Tryz.func55 (by kernel_rfl) (by kernel_rfl)
def q5m : q0f := (.seq (.ops [⟨some 2,m (c (.bool false)),none⟩]) (.seq (.ops [⟨some 3,m (t 0),none⟩,⟨some 4,m (t 0),none⟩,⟨some 5,.gen ⟨none,(.binOp .neq 49 (t 3) (t 4) 49),4,"",#[],none⟩,none⟩,⟨some 2,m (t 5),none⟩]) .ret))
def q2y:q0h:=⟨1,6,[.tmp 2],q5m⟩
theorem q7U:FOK Tryz.prog 57 q2y:=FOK.of [] Tryz.func57 (by kernel_rfl) (by kernel_rfl)
def q0L:q0f:=(.seq (.ops [⟨some 9,.int .lss (t 8) (t 7),none⟩]) (.seq (.cond (t 9) .skip (.exit 0)) (.seq (.block 1 (.seq (.ops [⟨some 10,m (t 8),none⟩,⟨some 5,m (t 10),none⟩]) (.seq (.ops [⟨some 11,m (t 1),none⟩,⟨some 12,m (t 0),none⟩,⟨some 13,m (t 5),none⟩,⟨some 14,.iaddr (t 12) (t 13) 1,none⟩,⟨some 15,.load (t 14) none,none⟩,⟨some 16,.call (t 11) [(t 15)],none⟩]) (.cond (t 16) (.seq (.ops [⟨some 17,m (t 5),none⟩,⟨some 4,m (t 17),none⟩]) .ret) .skip)))) (.ops [⟨some 18,.int .add (t 8) (c (.int .i64 1)),none⟩,⟨some 8,m (t 18),none⟩]))))
def q2B:q0f:=(.seq (.ops [⟨some 4,m (c (.int .i64 0)),none⟩]) (.seq (.seq (.ops [⟨some 6,m (t 0),none⟩,⟨some 7,.len false (t 6),none⟩,⟨some 8,m (c (.int .i64 0)),none⟩]) (.block 0 (.loop [0,1,7,8] q0L))) (.seq (.ops [⟨some 4,m (c (.int .i64 (-1))),none⟩]) .ret)))
def q0T:q0h:=⟨2,19,[.tmp 4],q2B⟩
theorem q4k:FOK Tryz.prog 58 q0T:=FOK.of [[0,1,7,8]] Tryz.func58 (by kernel_rfl) (by kernel_rfl)
def q9j:q0f:=(.seq (.ops [⟨some 0,m (c (.slice none 0 0)),none⟩,⟨some 1,m (c (.slice none 0 0)),none⟩]) (.seq (.ops [⟨some 2,.bslice 3 8 1 [(.int .i64 0)] [(0,1,(.const (.int .i64 774))),(1,1,(.const (.int .i64 770))),(2,1,(.const (.int .i64 795))),(3,1,(.const (.int .i64 768))),(4,1,(.const (.int .i64 769))),(5,1,(.const (.int .i64 777))),(6,1,(.const (.int .i64 771))),(7,1,(.const (.int .i64 803)))],none⟩,⟨some 3,.bslice 46 8 1 [(.complex .f64 0 0)] [(0,1,(.const (.complex .f64 4607182418800017408 0))),(1,1,(.const (.complex .f64 4611686018427387904 0))),(2,1,(.const (.complex .f64 4613937818241073152 0))),(3,1,(.const (.complex .f64 0 4607182418800017408))),(4,1,(.const (.complex .f64 0 4611686018427387904))),(5,1,(.const (.complex .f64 0 4613937818241073152))),(6,1,(.const (.complex .f64 0 4616189618054758400))),(7,1,(.const (.complex .f64 0 4617315517961601024)))],none⟩,⟨some 0,m (t 2),none⟩,⟨some 1,m (t 3),none⟩]) .ret))
def q5M:q0h:=⟨0,4,[.tmp 0,.tmp 1],q9j⟩
theorem q8F:FOK Tryz.prog 76 q5M:=FOK.of [] Tryz.func76 (by kernel_rfl) (by kernel_rfl)
def q1k : q0f := (.seq (.ops [⟨some 26,.int .lss (t 25) (t 24),none⟩]) (.seq (.cond (t 26) .skip (.exit 4)) (.seq (.block 5 (.seq (.ops [⟨some 27,m (t 25),none⟩,⟨some 28,.iaddr (t 23) (t 25) 1,none⟩,⟨some 29,.load (t 28) none,none⟩,⟨some 9,m (t 27),none⟩,⟨some 10,m (t 29),none⟩]) (.seq (.seq (.ops [⟨some 30,m (t 5),none⟩,⟨some 31,m (t 0),none⟩,⟨some 32,.int .eql (t 30) (t 31),none⟩]) (.cond (t 32) (.seq (.ops [⟨some 33,.faddr (t 8) 0,none⟩,⟨some 34,.load (t 33) none,none⟩,⟨some 11,m (t 34),none⟩]) (.seq (.seq (.ops [⟨some 35,m (t 6),none⟩,⟨some 36,.int .eql (t 35) (c (.int .i64 1)),none⟩]) (.cond (t 36) (.ops [⟨some 37,m (t 11),none⟩,⟨some 38,.call (.func 105) [(t 37)],none⟩,⟨some 39,m (t 10),none⟩,⟨some 40,.call (.func 105) [(t 39)],none⟩,⟨some 11,m (t 38),none⟩,⟨some 10,m (t 40),none⟩]) .skip)) (.seq (.ops [⟨some 41,m (t 11),none⟩,⟨some 42,.faddr (t 8) 1,none⟩,⟨some 43,.load (t 42) none,none⟩,⟨some 44,.gen ⟨none,(.convert 3 49 (t 43)),49,"",#[],none⟩,none⟩,⟨some 45,m (t 9),none⟩,⟨some 46,.gen ⟨none,(.convert 3 49 (t 45)),49,"",#[],none⟩,none⟩,⟨some 47,.gen ⟨none,(.call ⟨.builtin .complex,#[(t 44),(t 46)],#[49,49]⟩),46,"",#[],none⟩,none⟩,⟨some 48,.build [(.int .i64 0),(.complex .f64 0 0)] [(0,1,(t 41)),(1,1,(t 47))],none⟩,⟨some 49,m (t 10),none⟩,⟨none,.store (t 2) (t 48) 2,none⟩,⟨some 3,m (t 49),none⟩,⟨some 4,m (c (.bool true)),none⟩]) .ret))) .skip)) (.ops [⟨some 50,m (t 5),none⟩,⟨some 51,.int .add (t 50) (c (.int .i64 1)),none⟩,⟨some 5,m (t 51),none⟩])))) (.ops [⟨some 52,.int .add (t 25) (c (.int .i64 1)),none⟩,⟨some 25,m (t 52),none⟩]))))
def q1V:q0f:=(.seq (.ops [⟨some 19,.int .lss (t 18) (t 17),none⟩]) (.seq (.cond (t 19) .skip (.exit 2)) (.seq (.block 3 (.seq (.ops [⟨some 20,.iaddr (t 16) (t 18) 3,none⟩,⟨some 21,.load (t 20) (some 3),none⟩,⟨some 8,.alloc [(.int .i64 0),(.int .i64 0),(.slice none 0 0)] 201,none⟩,⟨none,.store (t 8) (t 21) 3,none⟩]) (.seq (.ops [⟨some 22,.faddr (t 8) 2,none⟩,⟨some 23,.load (t 22) none,none⟩,⟨some 24,.len false (t 23),none⟩,⟨some 25,m (c (.int .i64 0)),none⟩]) (.block 4 (.loop [0,2,5,6,8,16,17,18,23,24,25] q1k))))) (.ops [⟨some 53,.int .add (t 18) (c (.int .i64 1)),none⟩,⟨some 18,m (t 53),none⟩]))))
def q1W:q0f:=(.seq (.seq (.ops [⟨some 12,m (t 6),none⟩,⟨some 13,.int .lss (t 12) (c (.int .i64 2)),none⟩]) (.cond (t 13) .skip (.exit 0))) (.seq (.block 1 (.seq (.ops [⟨some 16,.call (.func 104) [],none⟩,⟨some 17,.len false (t 16),none⟩,⟨some 18,m (c (.int .i64 0)),none⟩]) (.block 2 (.loop [0,2,5,6,16,17,18] q1V)))) (.ops [⟨some 14,m (t 6),none⟩,⟨some 15,.int .add (t 14) (c (.int .i64 1)),none⟩,⟨some 6,m (t 15),none⟩])))
def q5n:q0f:=(.seq (.ops [⟨some 2,.alloc [(.int .i64 0),(.complex .f64 0 0)] 154,none⟩,⟨some 3,m (c (.int .i64 0)),none⟩,⟨some 4,m (c (.bool false)),none⟩]) (.seq (.ops [⟨some 5,m (c (.int .i64 0)),none⟩]) (.seq (.seq (.ops [⟨some 6,m (c (.int .i64 0)),none⟩]) (.block 0 (.loop [0,2,5,6] q1W))) (.seq (.ops [⟨some 54,.build [(.int .i64 0),(.complex .f64 0 0)] [],none⟩,⟨none,.store (t 2) (t 54) 2,none⟩,⟨some 3,m (c (.int .i64 0)),none⟩,⟨some 4,m (c (.bool false)),none⟩]) .ret))))
def q2z:q0h:=⟨1,55,[.cell 2 (some 2),.tmp 3,.tmp 4],q5n⟩
theorem q7V:FOK Tryz.prog 77 q2z:=FOK.of [[0,2,5,6],[0,2,5,6,16,17,18],[0,2,5,6,8,16,17,18,23,24,25]] Tryz.func77 (by kernel_rfl) (by kernel_rfl)
def q6G:q0f:=(.seq (.ops [⟨some 0,m (c (.slice none 0 0)),none⟩]) (.seq (.ops [⟨some 1,.bslice 3 22 1 [(.int .i64 0)] [(0,1,(.const (.int .i64 2965))),(1,1,(.const (.int .i64 2969))),(2,1,(.const (.int .i64 2970))),(3,1,(.const (.int .i64 2974))),(4,1,(.const (.int .i64 2975))),(5,1,(.const (.int .i64 2979))),(6,1,(.const (.int .i64 2980))),(7,1,(.const (.int .i64 2984))),(8,1,(.const (.int .i64 2986))),(9,1,(.const (.int .i64 2990))),(10,1,(.const (.int .i64 2991))),(11,1,(.const (.int .i64 2992))),(12,1,(.const (.int .i64 2994))),(13,1,(.const (.int .i64 2997))),(14,1,(.const (.int .i64 2996))),(15,1,(.const (.int .i64 2995))),(16,1,(.const (.int .i64 2993))),(17,1,(.const (.int .i64 2985))),(18,1,(.const (.int .i64 2972))),(19,1,(.const (.int .i64 2999))),(20,1,(.const (.int .i64 3000))),(21,1,(.const (.int .i64 3001)))],none⟩,⟨some 0,m (t 1),none⟩]) .ret))
def q3L:q0h:=⟨0,2,[.tmp 0],q6G⟩
theorem q6v:FOK Tryz.prog 78 q3L:=FOK.of [] Tryz.func78 (by kernel_rfl) (by kernel_rfl)
def q9V:q0f:=(.seq (.ops [⟨some 0,m (c (.slice none 0 0)),none⟩]) (.seq (.ops [⟨some 1,.bslice 3 6 1 [(.int .i64 0)] [(0,1,(.const (.int .i64 97))),(1,1,(.const (.int .i64 224))),(2,1,(.const (.int .i64 225))),(3,1,(.const (.int .i64 7843))),(4,1,(.const (.int .i64 227))),(5,1,(.const (.int .i64 7841)))],none⟩,⟨some 2,.build [(.int .i64 0),(.int .i64 0),(.slice none 0 0)] [(0,1,(.const (.int .i64 97))),(1,1,(.const (.int .i64 0))),(2,1,(t 1))],none⟩,⟨some 3,.bslice 3 6 1 [(.int .i64 0)] [(0,1,(.const (.int .i64 259))),(1,1,(.const (.int .i64 7857))),(2,1,(.const (.int .i64 7855))),(3,1,(.const (.int .i64 7859))),(4,1,(.const (.int .i64 7861))),(5,1,(.const (.int .i64 7863)))],none⟩,⟨some 4,.build [(.int .i64 0),(.int .i64 0),(.slice none 0 0)] [(0,1,(.const (.int .i64 97))),(1,1,(.const (.int .i64 1))),(2,1,(t 3))],none⟩,⟨some 5,.bslice 3 6 1 [(.int .i64 0)] [(0,1,(.const (.int .i64 226))),(1,1,(.const (.int .i64 7847))),(2,1,(.const (.int .i64 7845))),(3,1,(.const (.int .i64 7849))),(4,1,(.const (.int .i64 7851))),(5,1,(.const (.int .i64 7853)))],none⟩,⟨some 6,.build [(.int .i64 0),(.int .i64 0),(.slice none 0 0)] [(0,1,(.const (.int .i64 97))),(1,1,(.const (.int .i64 2))),(2,1,(t 5))],none⟩,⟨some 7,.bslice 3 6 1 [(.int .i64 0)] [(0,1,(.const (.int .i64 101))),(1,1,(.const (.int .i64 232))),(2,1,(.const (.int .i64 233))),(3,1,(.const (.int .i64 7867))),(4,1,(.const (.int .i64 7869))),(5,1,(.const (.int .i64 7865)))],none⟩,⟨some 8,.build [(.int .i64 0),(.int .i64 0),(.slice none 0 0)] [(0,1,(.const (.int .i64 101))),(1,1,(.const (.int .i64 0))),(2,1,(t 7))],none⟩,⟨some 9,.bslice 3 6 1 [(.int .i64 0)] [(0,1,(.const (.int .i64 234))),(1,1,(.const (.int .i64 7873))),(2,1,(.const (.int .i64 7871))),(3,1,(.const (.int .i64 7875))),(4,1,(.const (.int .i64 7877))),(5,1,(.const (.int .i64 7879)))],none⟩,⟨some 10,.build [(.int .i64 0),(.int .i64 0),(.slice none 0 0)] [(0,1,(.const (.int .i64 101))),(1,1,(.const (.int .i64 2))),(2,1,(t 9))],none⟩,⟨some 11,.bslice 3 6 1 [(.int .i64 0)] [(0,1,(.const (.int .i64 105))),(1,1,(.const (.int .i64 236))),(2,1,(.const (.int .i64 237))),(3,1,(.const (.int .i64 7881))),(4,1,(.const (.int .i64 297))),(5,1,(.const (.int .i64 7883)))],none⟩,⟨some 12,.build [(.int .i64 0),(.int .i64 0),(.slice none 0 0)] [(0,1,(.const (.int .i64 105))),(1,1,(.const (.int .i64 0))),(2,1,(t 11))],none⟩,⟨some 13,.bslice 3 6 1 [(.int .i64 0)] [(0,1,(.const (.int .i64 111))),(1,1,(.const (.int .i64 242))),(2,1,(.const (.int .i64 243))),(3,1,(.const (.int .i64 7887))),(4,1,(.const (.int .i64 245))),(5,1,(.const (.int .i64 7885)))],none⟩,⟨some 14,.build [(.int .i64 0),(.int .i64 0),(.slice none 0 0)] [(0,1,(.const (.int .i64 111))),(1,1,(.const (.int .i64 0))),(2,1,(t 13))],none⟩,⟨some 15,.bslice 3 6 1 [(.int .i64 0)] [(0,1,(.const (.int .i64 244))),(1,1,(.const (.int .i64 7891))),(2,1,(.const (.int .i64 7889))),(3,1,(.const (.int .i64 7893))),(4,1,(.const (.int .i64 7895))),(5,1,(.const (.int .i64 7897)))],none⟩,⟨some 16,.build [(.int .i64 0),(.int .i64 0),(.slice none 0 0)] [(0,1,(.const (.int .i64 111))),(1,1,(.const (.int .i64 2))),(2,1,(t 15))],none⟩,⟨some 17,.bslice 3 6 1 [(.int .i64 0)] [(0,1,(.const (.int .i64 417))),(1,1,(.const (.int .i64 7901))),(2,1,(.const (.int .i64 7899))),(3,1,(.const (.int .i64 7903))),(4,1,(.const (.int .i64 7905))),(5,1,(.const (.int .i64 7907)))],none⟩,⟨some 18,.build [(.int .i64 0),(.int .i64 0),(.slice none 0 0)] [(0,1,(.const (.int .i64 111))),(1,1,(.const (.int .i64 3))),(2,1,(t 17))],none⟩,⟨some 19,.bslice 3 6 1 [(.int .i64 0)] [(0,1,(.const (.int .i64 117))),(1,1,(.const (.int .i64 249))),(2,1,(.const (.int .i64 250))),(3,1,(.const (.int .i64 7911))),(4,1,(.const (.int .i64 361))),(5,1,(.const (.int .i64 7909)))],none⟩,⟨some 20,.build [(.int .i64 0),(.int .i64 0),(.slice none 0 0)] [(0,1,(.const (.int .i64 117))),(1,1,(.const (.int .i64 0))),(2,1,(t 19))],none⟩,⟨some 21,.bslice 3 6 1 [(.int .i64 0)] [(0,1,(.const (.int .i64 432))),(1,1,(.const (.int .i64 7915))),(2,1,(.const (.int .i64 7913))),(3,1,(.const (.int .i64 7917))),(4,1,(.const (.int .i64 7919))),(5,1,(.const (.int .i64 7921)))],none⟩,⟨some 22,.build [(.int .i64 0),(.int .i64 0),(.slice none 0 0)] [(0,1,(.const (.int .i64 117))),(1,1,(.const (.int .i64 3))),(2,1,(t 21))],none⟩,⟨some 23,.bslice 3 6 1 [(.int .i64 0)] [(0,1,(.const (.int .i64 121))),(1,1,(.const (.int .i64 7923))),(2,1,(.const (.int .i64 253))),(3,1,(.const (.int .i64 7927))),(4,1,(.const (.int .i64 7929))),(5,1,(.const (.int .i64 7925)))],none⟩,⟨some 24,.build [(.int .i64 0),(.int .i64 0),(.slice none 0 0)] [(0,1,(.const (.int .i64 121))),(1,1,(.const (.int .i64 0))),(2,1,(t 23))],none⟩,⟨some 25,.bslice 3 1 1 [(.int .i64 0)] [(0,1,(.const (.int .i64 100)))],none⟩,⟨some 26,.build [(.int .i64 0),(.int .i64 0),(.slice none 0 0)] [(0,1,(.const (.int .i64 100))),(1,1,(.const (.int .i64 0))),(2,1,(t 25))],none⟩,⟨some 27,.bslice 3 1 1 [(.int .i64 0)] [(0,1,(.const (.int .i64 273)))],none⟩,⟨some 28,.build [(.int .i64 0),(.int .i64 0),(.slice none 0 0)] [(0,1,(.const (.int .i64 100))),(1,1,(.const (.int .i64 4))),(2,1,(t 27))],none⟩,⟨some 29,.bslice 201 14 3 [(.int .i64 0),(.int .i64 0),(.slice none 0 0)] [(0,3,(t 2)),(3,3,(t 4)),(6,3,(t 6)),(9,3,(t 8)),(12,3,(t 10)),(15,3,(t 12)),(18,3,(t 14)),(21,3,(t 16)),(24,3,(t 18)),(27,3,(t 20)),(30,3,(t 22)),(33,3,(t 24)),(36,3,(t 26)),(39,3,(t 28))],none⟩,⟨some 0,m (t 29),none⟩]) .ret))
def q6l:q0h:=⟨0,30,[.tmp 0],q9V⟩
theorem q9k:FOK Tryz.prog 104 q6l:=FOK.of [] Tryz.func104 (by kernel_rfl) (by kernel_rfl)
def q5N:q0f:=(.seq (.ops [⟨some 2,m (c (.int .i64 0)),none⟩]) (.seq (.seq (.ops [⟨some 3,m (t 0),none⟩,⟨some 4,.int .lss (t 3) (c (.int .i64 256)),none⟩]) (.cond (t 4) (.seq (.ops [⟨some 5,m (t 0),none⟩,⟨some 6,.int .sub (t 5) (c (.int .i64 32)),none⟩,⟨some 2,m (t 6),none⟩]) .ret) .skip)) (.seq (.ops [⟨some 7,m (t 0),none⟩,⟨some 8,.int .sub (t 7) (c (.int .i64 1)),none⟩,⟨some 2,m (t 8),none⟩]) .ret)))
def q2M:q0h:=⟨1,9,[.tmp 2],q5N⟩
theorem q8G:FOK Tryz.prog 105 q2M:=FOK.of [] Tryz.func105 (by kernel_rfl) (by kernel_rfl)
def z7c:q0f:=(.ops [⟨some 4,m (t 0),none⟩,⟨some 5,m (t 0),none⟩,⟨some 6,.len false (t 5),none⟩,⟨some 7,m (t 1),none⟩,⟨some 8,.call (.func 56) [(t 4),(t 6),(t 7)],none⟩])
def k9G:q0h:=⟨2,9,[],z7c⟩
theorem z8Q:FOK Tryz.prog 33 k9G:=FOK.of [] Tryz.func33 (by kernel_rfl) (by kernel_rfl)
def k9H:q0f:=(.seq (.seq (.ops [⟨some 11,m (t 8),none⟩,⟨some 12,m (t 1),none⟩,⟨some 13,.int .leq (t 11) (t 12),none⟩]) (.cond (t 13) .skip (.exit 0))) (.block 1 (.seq (.ops [⟨some 14,m (t 0),none⟩,⟨some 15,m (t 7),none⟩,⟨some 16,m (t 8),none⟩,⟨some 17,m (t 2),none⟩,⟨some 18,.call (.func 79) [(t 14),(t 15),(t 16),(t 17)],none⟩]) (.seq (.ops [⟨some 19,m (t 8),none⟩,⟨some 7,m (t 19),none⟩]) (.ops [⟨some 20,m (t 8),none⟩,⟨some 21,m (t 6),none⟩,⟨some 22,.int .add (t 20) (t 21),none⟩,⟨some 8,m (t 22),none⟩])))))
def z5F:q0f:=(.seq (.seq (.ops [⟨some 33,m (t 8),none⟩,⟨some 34,m (t 1),none⟩,⟨some 35,.int .leq (t 33) (t 34),none⟩]) (.cond (t 35) .skip (.exit 4))) (.block 5 (.seq (.ops [⟨some 36,m (t 0),none⟩,⟨some 37,m (t 7),none⟩,⟨some 38,m (t 7),none⟩,⟨some 39,m (t 6),none⟩,⟨some 40,.int .add (t 38) (t 39),none⟩,⟨some 41,m (t 8),none⟩,⟨some 42,m (t 2),none⟩,⟨some 43,.call (.func 80) [(t 36),(t 37),(t 40),(t 41),(t 42)],none⟩]) (.seq (.ops [⟨some 44,m (t 8),none⟩,⟨some 7,m (t 44),none⟩]) (.ops [⟨some 45,m (t 8),none⟩,⟨some 46,m (t 6),none⟩,⟨some 47,.int .mul (c (.int .i64 2)) (t 46),none⟩,⟨some 48,.int .add (t 45) (t 47),none⟩,⟨some 8,m (t 48),none⟩])))))
def k9I:q0f:=(.seq (.seq (.ops [⟨some 28,m (t 6),none⟩,⟨some 29,m (t 1),none⟩,⟨some 30,.int .lss (t 28) (t 29),none⟩]) (.cond (t 30) .skip (.exit 2))) (.block 3 (.seq (.ops [⟨some 31,m (t 6),none⟩,⟨some 32,.int .mul (c (.int .i64 2)) (t 31),none⟩,⟨some 7,m (c (.int .i64 0)),none⟩,⟨some 8,m (t 32),none⟩]) (.seq (.block 4 (.loop [0,1,2,6,7,8] z5F)) (.seq (.seq (.ops [⟨some 49,m (t 7),none⟩,⟨some 50,m (t 6),none⟩,⟨some 51,.int .add (t 49) (t 50),none⟩,⟨some 9,m (t 51),none⟩]) (.seq (.ops [⟨some 52,m (t 9),none⟩,⟨some 53,m (t 1),none⟩,⟨some 54,.int .lss (t 52) (t 53),none⟩]) (.cond (t 54) (.ops [⟨some 55,m (t 0),none⟩,⟨some 56,m (t 7),none⟩,⟨some 57,m (t 9),none⟩,⟨some 58,m (t 1),none⟩,⟨some 59,m (t 2),none⟩,⟨some 60,.call (.func 80) [(t 55),(t 56),(t 57),(t 58),(t 59)],none⟩]) .skip))) (.ops [⟨some 61,m (t 6),none⟩,⟨some 62,.int .mul (t 61) (c (.int .i64 2)),none⟩,⟨some 6,m (t 62),none⟩]))))))
def z7d:q0f:=(.seq (.ops [⟨some 6,m (c (.int .i64 20)),none⟩]) (.seq (.ops [⟨some 10,m (t 6),none⟩,⟨some 7,m (c (.int .i64 0)),none⟩,⟨some 8,m (t 10),none⟩]) (.seq (.block 0 (.loop [0,1,2,6,7,8] k9H)) (.seq (.ops [⟨some 23,m (t 0),none⟩,⟨some 24,m (t 7),none⟩,⟨some 25,m (t 1),none⟩,⟨some 26,m (t 2),none⟩,⟨some 27,.call (.func 79) [(t 23),(t 24),(t 25),(t 26)],none⟩]) (.block 2 (.loop [0,1,2,6] k9I))))))
def k9J:q0h:=⟨3,63,[],z7d⟩
theorem z8R:FOK Tryz.prog 56 k9J:=FOK.of [[0,1,2,6,7,8],[0,1,2,6],[0,1,2,6,7,8]] Tryz.func56 (by kernel_rfl) (by kernel_rfl)
def k1u:q0f:=(.seq (.seq (.draw [⟨some 18,m (t 9),none⟩,⟨some 19,m (t 1),none⟩,⟨some 20,.int .gtr (t 18) (t 19),none⟩,⟨some 21,m (t 20),none⟩,⟨some 22,m (t 3),some (21,true)⟩,⟨some 23,m (t 0),some (21,true)⟩,⟨some 24,m (t 9),some (21,true)⟩,⟨some 25,.iaddr (t 23) (t 24) 2,some (21,true)⟩,⟨some 26,.load (t 25) (some 2),some (21,true)⟩,⟨some 27,m (t 0),some (21,true)⟩,⟨some 28,m (t 9),some (21,true)⟩,⟨some 29,.int .sub (t 28) (c (.int .i64 1)),some (21,true)⟩,⟨some 30,.iaddr (t 27) (t 29) 2,some (21,true)⟩,⟨some 31,.load (t 30) (some 2),some (21,true)⟩,⟨some 32,.call (t 22) [(t 26),(t 31)],some (21,true)⟩,⟨some 33,.int .lss (t 32) (c (.int .i64 0)),some (21,true)⟩,⟨some 34,.pick (t 21) (t 33) (c (.bool false)),none⟩]) (.cond (t 34) .skip (.exit 2))) (.seq (.block 3 (.draw [⟨some 37,m (t 0),none⟩,⟨some 38,m (t 9),none⟩,⟨some 39,m (t 0),none⟩,⟨some 40,m (t 9),none⟩,⟨some 41,.int .sub (t 40) (c (.int .i64 1)),none⟩,⟨some 42,m (t 0),none⟩,⟨some 43,m (t 9),none⟩,⟨some 44,.int .sub (t 43) (c (.int .i64 1)),none⟩,⟨some 45,.iaddr (t 42) (t 44) 2,none⟩,⟨some 46,.load (t 45) (some 2),none⟩,⟨some 47,m (t 0),none⟩,⟨some 48,m (t 9),none⟩,⟨some 49,.iaddr (t 47) (t 48) 2,none⟩,⟨some 50,.load (t 49) (some 2),none⟩,⟨some 51,.iaddr (t 37) (t 38) 2,none⟩,⟨none,.store (t 51) (t 46) 2,none⟩,⟨some 52,.iaddr (t 39) (t 41) 2,none⟩,⟨none,.store (t 52) (t 50) 2,none⟩])) (.ops [⟨some 35,m (t 9),none⟩,⟨some 36,.int .sub (t 35) (c (.int .i64 1)),none⟩,⟨some 9,m (t 36),none⟩])))
def k1v:q0f:=(.seq (.seq (.ops [⟨some 12,m (t 8),none⟩,⟨some 13,m (t 2),none⟩,⟨some 14,.int .lss (t 12) (t 13),none⟩]) (.cond (t 14) .skip (.exit 0))) (.seq (.block 1 (.seq (.ops [⟨some 17,m (t 8),none⟩,⟨some 9,m (t 17),none⟩]) (.block 2 (.loop [0,1,2,3,8,9] k1u)))) (.ops [⟨some 15,m (t 8),none⟩,⟨some 16,.int .add (t 15) (c (.int .i64 1)),none⟩,⟨some 8,m (t 16),none⟩])))
def z7e:q0f:=(.seq (.ops [⟨some 10,m (t 1),none⟩,⟨some 11,.int .add (t 10) (c (.int .i64 1)),none⟩,⟨some 8,m (t 11),none⟩]) (.block 0 (.loop [0,1,2,3,8] k1v)))
def k9K:q0h:=⟨4,53,[],z7e⟩
theorem z8S:FOK Tryz.prog 79 k9K:=FOK.of [[0,1,2,3,8],[0,1,2,3,8,9],[0,1,2,3,4,5,6,7,8,9,10,11,12,13,14,15,16],[0,1,2,3,4,5,6,7,8,9,10,11,12,13,14,15,16,17]] Tryz.func79 (by kernel_rfl) (by kernel_rfl)
end
end Go.Proofs.YtleiinhaljdcoaaGreatDoor
namespace Lon
open Go
section
variable {P:Program} {Γ:FuncId→Option q0h} {Ω:q0F} {cf:q0F} {e:Env} {H:q0a}
theorem q2f {c:q0f}:run P Γ Ω c e H=none↔∀n,q0t P (cw P Γ Ω) n c e H=none:=by
 constructor
 ·intro h n
  cases hx:q0t P (cw P Γ Ω) n c e H with
  | none=>rfl
  | some r=>rw[q2U n hx] at h;cases h
 ·intro h
  cases hx:run P Γ Ω c e H with
  | none=>rfl
  | some r=>obtain ⟨n,hn⟩:=q2i.1 hx;rw[h n] at hn;cases hn
theorem z2J:run P Γ Ω .skip e H=some (.normal,e,H):=z5z
theorem z2K {id:Nat}:run P Γ Ω (.exit id) e H=some (.exit id,e,H):=z5A
theorem z7f:run P Γ Ω .ret e H=some (.ret,e,H):=z8M
theorem j0N {rows:List ARow}:run P Γ Ω (.ops rows) e H=(q4h P (cw P Γ Ω) rows e H).map fun x=>(.normal,x.1,x.2):=by
 cases h:q4h P (cw P Γ Ω) rows e H with
 | none=>exact q2f.2 fun n=>by simp only[q0t,h];rfl
 | some x=>exact z8N h
theorem z8T {rows:List ARow}:run P Γ Ω (.draw rows) e H=(q3F P (cw P Γ Ω) rows [] [] e H).map fun x=>(.normal,x.1,x.2):=by
 cases h:q3F P (cw P Γ Ω) rows [] [] e H with
 | none=>exact q2f.2 fun n=>by simp only[q0t,h];rfl
 | some x=>exact z5B h
def andThen (r:Option (AEx×Env×q0a)) (k:Env→q0a→Option (AEx×Env×q0a)):Option (AEx×Env×q0a):=
 match r with
 | some (.normal,e,H)=>k e H
 | r=>r
theorem k2z {k:Env→q0a→Option (AEx×Env×q0a)}:andThen (some (.normal,e,H)) k=k e H:=rfl
theorem j0O {a b:q0f}:run P Γ Ω (.seq a b) e H=andThen (run P Γ Ω a e H) fun e' H'=>run P Γ Ω b e' H':=by
 cases h:run P Γ Ω a e H with
 | none=>exact q2f.2 fun n=>by simp only[q0t,q2f.1 h n]
 | some r=>
  obtain ⟨x,e',H'⟩:=r
  cases x with
  | normal=>
   rw[k2z]
   cases k:run P Γ Ω b e' H' with
   | some r=>exact z8O h k
   | none=>
    refine q2f.2 fun n=>?_
    simp only[q0t]
    cases hx:q0t P (cw P Γ Ω) n a e H with
    | none=>rfl
    | some r=>
     have:=q2U n hx
     rw[h] at this
     injection this with this
     subst this
     exact q2f.1 k n
  | ret=>exact k8v h
  | exit id=>exact k6C h
def k4f {α:Type} (v:Value) (a b:Option α):Option α:=
 match v with
 | .bool true=>a
 | .bool false=>b
 | _=>none
theorem z8U {q:Operand} {a b:q0f}:run P Γ Ω (.cond q a b) e H=k4f (ev e q) (run P Γ Ω a e H) (run P Γ Ω b e H):=by
 have hex:∀n,q0t P (cw P Γ Ω) n (.cond q a b) e H=k4f (ev e q) (q0t P (cw P Γ Ω) n a e H) (q0t P (cw P Γ Ω) n b e H):=fun n=>by
  simp only[q0t]
  unfold k4f
  generalize ev e q=v
  cases v<;>rfl
 unfold k4f
 split
 ·rename_i hq
  cases h:run P Γ Ω a e H with
  | some r=>exact z5C hq h
  | none=>exact q2f.2 fun n=>by rw[hex n,hq];exact q2f.1 h n
 ·rename_i hq
  cases h:run P Γ Ω b e H with
  | some r=>exact z2H hq h
  | none=>exact q2f.2 fun n=>by rw[hex n,hq];exact q2f.1 h n
 ·rename_i h1 h2
  refine q2f.2 fun n=>?_
  rw[hex n]
  unfold k4f
  split
  ·rename_i hq;exact absurd hq h1
  ·rename_i hq;exact absurd hq h2
  ·rfl
def k5u (id:Nat) (r:Option (AEx×Env×q0a)):Option (AEx×Env×q0a):=
 match r with
 | some (.exit id',e,H)=>if id'=id then some (.normal,e,H) else some (.exit id',e,H)
 | r=>r
theorem k0Z {id:Nat}:k5u id (some (.normal,e,H))=some (.normal,e,H):=rfl
theorem k6W {id:Nat}:k5u id (some (.ret,e,H))=some (.ret,e,H):=rfl
theorem k0A {id id':Nat}:k5u id (some (.exit id',e,H))=if id'=id then some (.normal,e,H) else some (.exit id',e,H):=rfl
theorem k9L {id:Nat} {a:q0f}:run P Γ Ω (.block id a) e H=k5u id (run P Γ Ω a e H):=by
 cases h:run P Γ Ω a e H with
 | none=>exact q2f.2 fun n=>by simp only[q0t,q2f.1 h n]
 | some r=>
  obtain ⟨x,e',H'⟩:=r
  obtain ⟨n,hn⟩:=q2i.1 h
  cases x with
  | normal=>exact q2U n (by simp only[q0t];rw[hn])
  | ret=>exact q2U n (by simp only[q0t];rw[hn])
  | exit id'=>
   rw[k0A]
   split
   ·rename_i hid;exact q2U n (by simp only[q0t];rw[hn];simp[hid])
   ·rename_i hid;exact q2U n (by simp only[q0t];rw[hn];simp[hid])
theorem z8V {keep:List Nat} {a:q0f}:run P Γ Ω (.loop keep a) e H=andThen (run P Γ Ω a (forget keep e) H) fun e' H'=>run P Γ Ω (.loop keep a) e' H':=by
 cases h:run P Γ Ω a (forget keep e) H with
 | none=>
  refine q2f.2 fun n=>?_
  simp only[q0t]
  cases n with
  | zero=>rfl
  | succ n=>simp only[q4i];rw[q2f.1 h (n+1)]
 | some r=>
  obtain ⟨x,e',H'⟩:=r
  cases x with
  | ret=>exact k6D h
  | exit id=>exact k5a h
  | normal=>
   rw[k2z]
   cases k:run P Γ Ω (.loop keep a) e' H' with
   | some r=>exact z5D h k
   | none=>
    refine q2f.2 fun n=>?_
    simp only[q0t]
    cases n with
    | zero=>rfl
    | succ n=>
     simp only[q4i]
     cases hx:q0t P (cw P Γ Ω) (n+1) a (forget keep e) H with
     | none=>rfl
     | some r=>
      have:=q2U (n+1) hx
      rw[h] at this
      injection this with this
      subst this
      simp only
      have hk:=q2f.1 k (n+1)
      simp only[q0t] at hk
      cases hy:q4i keep (q0t P (cw P Γ Ω) (n+1) a) n e' H' with
      | none=>rfl
      | some r=>rw[q9u (fun _ _ _ h=>h) (Nat.le_succ n) hy] at hk;cases hk
noncomputable def k0B (P:Program) (Γ:FuncId→Option q0h) (Ω:q0F) (b:q0f) (r:Option (AEx×Env×q0a)):Option (AEx×Env×q0a):=andThen r fun e' H'=>run P Γ Ω b e' H'
theorem j0P {a b:q0f}:run P Γ Ω (.seq a b) e H=k0B P Γ Ω b (run P Γ Ω a e H):=j0O
theorem k9M {b:q0f}:k0B P Γ Ω b (some (.normal,e,H))=run P Γ Ω b e H:=rfl
theorem j0Q {b:q0f}:k0B P Γ Ω b (some (.ret,e,H))=some (.ret,e,H):=rfl
theorem z7g {b:q0f} {id:Nat}:k0B P Γ Ω b (some (.exit id,e,H))=some (.exit id,e,H):=rfl
noncomputable def fork (P:Program) (Γ:FuncId→Option q0h) (Ω:q0F) (a b:q0f) (e:Env) (H:q0a) (v:Value):Option (AEx×Env×q0a):=k4f v (run P Γ Ω a e H) (run P Γ Ω b e H)
theorem z7h {q:Operand} {a b:q0f}:run P Γ Ω (.cond q a b) e H=fork P Γ Ω a b e H (ev e q):=z8U
theorem z7i {a b:q0f}:fork P Γ Ω a b e H (.bool true)=run P Γ Ω a e H:=rfl
theorem z2L {a b:q0f}:fork P Γ Ω a b e H (.bool false)=run P Γ Ω b e H:=rfl
noncomputable def k9N (P:Program) (cf:q0F) (rs:List ARow) (e:Env) (d:Option Nat) (r:Option (Value×q0a)):Option (Env×q0a):=r.bind fun x=>q4h P cf rs (eput e d x.1) x.2
theorem z7j {rows:List ARow}:run P Γ Ω (.ops rows) e H=(q4h P (cw P Γ Ω) rows e H).map fun x=>(.normal,x.1,x.2):=j0N
theorem z7k:Option.map (fun x:Env×q0a=>((AEx.normal,x.1,x.2):AEx×Env×q0a)) (some (e,H))=some (.normal,e,H):=rfl
theorem k9O:q4h P cf [] e H=some (e,H):=rfl
theorem k6X {r:ARow} {rs:List ARow}:q4h P cf (r::rs) e H=k9N P cf rs e r.dst (rowV P cf r e H):=by
 unfold k9N
 simp only[q4h,rowA]
 cases rowV P cf r e H<;>rfl
theorem z2M {rs:List ARow} {d:Nat} {v:Value} {H':q0a}:k9N P cf rs e (some d) (some (v,H'))=q4h P cf rs ((d,v)::e) H':=rfl
theorem z2N {rs:List ARow} {v:Value} {H':q0a}:k9N P cf rs e none (some (v,H'))=q4h P cf rs e H':=rfl
theorem q9W {d:Option Nat} {o:AOp}:rowV P cf ⟨d,o,none⟩ e H=q0o P cf e H o:=rfl
noncomputable def q7m (P:Program) (cf:q0F) (e:Env) (H:q0a) (o:AOp) (want:Bool) (v:Value):Option (Value×q0a):=
 match v with
 | .bool b=>if b=want then q0o P cf e H o else some (.tuple ⟨[]⟩,H)
 | .tuple ⟨[]⟩=>some (.tuple ⟨[]⟩,H)
 | _=>none
theorem q7W {d:Option Nat} {o:AOp} {t:Nat} {want:Bool}:rowV P cf ⟨d,o,some (t,want)⟩ e H=q7m P cf e H o want (eget e t):=by
 unfold q7m
 simp only[rowV,k3J]
 split<;>rename_i h
 ·split at h
  ·rename_i b hb
   injection h with h
   simp only[hb]
   rw[if_pos (by simpa using h)]
  ·cases h
  ·cases h
 ·split at h
  ·rename_i b hb
   injection h with h
   simp only[hb]
   rw[if_neg (by intro hh;subst hh;simp at h)]
  ·rename_i hb
   simp only[hb]
  ·cases h
 ·split at h
  ·cases h
  ·cases h
  ·rename_i h1 h2
   split
   ·rename_i b hb;exact absurd hb (h1 b)
   ·rename_i hb;exact absurd hb h2
   ·rfl
theorem k9P {o:AOp}:q7m P cf e H o true (.bool true)=q0o P cf e H o:=rfl
theorem k9Q {o:AOp}:q7m P cf e H o false (.bool false)=q0o P cf e H o:=rfl
theorem k9R {o:AOp}:q7m P cf e H o true (.bool false)=some (.tuple ⟨[]⟩,H):=rfl
theorem k9S {o:AOp}:q7m P cf e H o false (.bool true)=some (.tuple ⟨[]⟩,H):=rfl
theorem k9T {o:AOp} {b:Bool}:q7m P cf e H o b (.tuple ⟨[]⟩)=some (.tuple ⟨[]⟩,H):=rfl
theorem z2O {r:ARow} {rs:List ARow} {l:List (Nat×Nat)} {F:List Nat}:q3F P cf (r::rs) l F e H=(rowV P cf r (forget (q2O r) e) H).bind fun x=>if ((!q1b r.op||calm x.2 F)&&(!q7q r rs||q7D H l))=true then q3F P cf rs (z2i (q7q r rs) (q3p H (forget (q2O r) e) r++l)) (q1w r.op H.n++F) (eput e r.dst x.1) x.2 else none:=by
 simp only[q3F]
 cases rowV P cf r (forget (q2O r) e) H<;>rfl
theorem k4g:forget [] e=[]:=rfl
theorem k2A {t:Nat} {ts:List Nat}:forget (t::ts) e=(t,eget e t)::forget ts e:=rfl
theorem z7l {t:Nat}:ev e (.tmp t)=eget e t:=rfl
theorem z7m {k:IntKind} {n:Int}:ev e (.const (.int k n))=.int k n:=rfl
theorem z2P {b:Bool}:ev e (.const (.bool b))=.bool b:=rfl
theorem k6Y {b:ByteArray}:ev e (.const (.string b))=.string b:=rfl
theorem k9U:ev e (.const (.slice none 0 0))=.slice none 0 0:=rfl
theorem k4h:ev e (.const (.pointer none))=.pointer none:=rfl
theorem z7n:ev e (.const (.map none))=.map none:=rfl
theorem k9V {k:FloatKind} {n:Nat}:ev e (.const (.float k n))=.float k n:=rfl
theorem k4i {k:FloatKind} {a b:Nat}:ev e (.const (.complex k a b))=.complex k a b:=rfl
theorem k2B:ev e (.const .nilIface)=.nilIface:=rfl
theorem k4j:ev e (.const .nilFunc)=.nilFunc:=rfl
theorem z2Q {f:FuncId}:ev e (.func f)=.func (.func f) ⟨[]⟩ ⟨[]⟩:=rfl
theorem z5G {x:Operand}:q0o P cf e H (.mv x)=some (ev e x,H):=rfl
def z2R (c a b:Value) (H:q0a):Option (Value×q0a):=match c with|.bool t=>some (if t then a else b,H)|_=>none
theorem k2C {c a b:Operand}:q0o P cf e H (.pick c a b)=z2R (ev e c) (ev e a) (ev e b) H:=by
 simp only[q0o,q0N,z2R];cases ev e c<;>rfl
theorem k9W {a b:Value}:z2R (.bool true) a b H=some (a,H):=rfl
theorem k9X {a b:Value}:z2R (.bool false) a b H=some (b,H):=rfl
def vExt (t:Value) (ix:Nat) (H:q0a):Option (Value×q0a):=match t with|.tuple vs=>(vs.toList[ix]?).map fun v=>(v,H)|_=>none
theorem k6Z {t:Operand} {ix:Nat}:q0o P cf e H (.ext t ix)=vExt (ev e t) ix H:=by
 simp only[q0o,q0N,vExt];cases ev e t<;>rfl
theorem z7o {a:Value} {r:List Value}:vExt (.tuple ⟨a::r⟩) 0 H=some (a,H):=rfl
theorem z7p {a b:Value} {r:List Value}:vExt (.tuple ⟨a::b::r⟩) 1 H=some (b,H):=rfl
theorem z7q {a b c:Value} {r:List Value}:vExt (.tuple ⟨a::b::c::r⟩) 2 H=some (c,H):=rfl
theorem z7r {a b c d:Value} {r:List Value}:vExt (.tuple ⟨a::b::c::d::r⟩) 3 H=some (d,H):=rfl
def vInt (op:BinOp) (x y:Value) (H:q0a):Option (Value×q0a):=match x,y with|.int k a,.int k' b=>if k=k' then (q2P op k a b).map fun v=>(v,H) else none|_,_=>none
theorem k7a {op:BinOp} {x y:Operand}:q0o P cf e H (.int op x y)=vInt op (ev e x) (ev e y) H:=by
 simp only[q0o,q0N,vInt];generalize ev e x=u;generalize ev e y=v
 cases u<;>cases v<;>first|rfl|(simp only;split<;>rfl)
theorem j0R {op:BinOp} {k:IntKind} {a b:Int}:vInt op (.int k a) (.int k b) H=(q2P op k a b).map fun v=>(v,H):=by simp[vInt]
def vBeq (neq:Bool) (x y:Value) (H:q0a):Option (Value×q0a):=match x,y with|.bool a,.bool b=>some (.bool (if neq then !(a==b) else a==b),H)|_,_=>none
theorem k7b {neq:Bool} {x y:Operand}:q0o P cf e H (.beq neq x y)=vBeq neq (ev e x) (ev e y) H:=by
 simp only[q0o,q0N,vBeq];generalize ev e x=u;generalize ev e y=v
 cases u<;>cases v<;>rfl
theorem j0S {a b:Bool}:vBeq false (.bool a) (.bool b) H=some (.bool (a==b),H):=rfl
theorem j0T {a b:Bool}:vBeq true (.bool a) (.bool b) H=some (.bool (!(a==b)),H):=rfl
def vNot (x:Value) (H:q0a):Option (Value×q0a):=match x with|.bool a=>some (.bool !a,H)|_=>none
theorem k7c {x:Operand}:q0o P cf e H (.not x)=vNot (ev e x) H:=by
 simp only[q0o,q0N,vNot];cases ev e x<;>rfl
theorem j0U {a:Bool}:vNot (.bool a) H=some (.bool !a,H):=rfl
def z5H (k:IntKind) (x:Value) (H:q0a):Option (Value×q0a):=match x with|.int _ n=>some (.int k (k.wrap n),H)|_=>none
theorem k2D {k:IntKind} {x:Operand}:q0o P cf e H (.conv k x)=z5H k (ev e x) H:=by
 simp only[q0o,q0N,z5H];cases ev e x<;>rfl
theorem z7s {k k':IntKind} {n:Int}:z5H k (.int k' n) H=some (.int k (k.wrap n),H):=rfl
def z7t (x:Value) (off:Nat) (H:q0a):Option (Value×q0a):=(match x with|.pointer (some ⟨i,o,none⟩)=>some (.pointer (some ⟨i,o+off,none⟩))|_=>none:Option Value).map fun v=>(v,H)
theorem k1w {x:Operand} {off:Nat}:q0o P cf e H (.faddr x off)=z7t (ev e x) off H:=rfl
theorem z2S {i o off:Nat}:z7t (.pointer (some ⟨i,o,none⟩)) off H=some (.pointer (some ⟨i,o+off,none⟩),H):=rfl
def q2E (x i:Value) (sz:Nat) (H:q0a):Option (Value×q0a):=(match x,i with|.slice (some ⟨b,o,none⟩) n _,.int _ j=>if 0≤j∧j<n then some (.pointer (some ⟨b,o+j.toNat*sz,none⟩)) else none|_,_=>none:Option Value).map fun v=>(v,H)
theorem q9X {x i:Operand} {sz:Nat}:q0o P cf e H (.iaddr x i sz)=q2E (ev e x) (ev e i) sz H:=rfl
theorem q4z {b o n c sz:Nat} {k:IntKind} {j:Int} (h:0≤j∧j<n):q2E (.slice (some ⟨b,o,none⟩) n c) (.int k j) sz H=some (.pointer (some ⟨b,o+j.toNat*sz,none⟩),H):=by simp[q2E,h]
def k7d (x i:Value) (cnt sz:Nat) (H:q0a):Option (Value×q0a):=(match x,i with|.pointer (some ⟨b,o,none⟩),.int _ j=>if 0≤j∧j<cnt then some (.pointer (some ⟨b,o+j.toNat*sz,none⟩)) else none|_,_=>none:Option Value).map fun v=>(v,H)
theorem q9Y {x i:Operand} {cnt sz:Nat}:q0o P cf e H (.aaddr x i cnt sz)=k7d (ev e x) (ev e i) cnt sz H:=rfl
theorem z2T {b o cnt sz:Nat} {k:IntKind} {j:Int} (h:0≤j∧j<cnt):k7d (.pointer (some ⟨b,o,none⟩)) (.int k j) cnt sz H=some (.pointer (some ⟨b,o+j.toNat*sz,none⟩),H):=by simp[k7d,h]
def vNil (x:Value) (H:q0a):Option (Value×q0a):=(match x with|.pointer (some ⟨i,o,none⟩)=>some (.pointer (some ⟨i,o,none⟩))|_=>none:Option Value).map fun v=>(v,H)
theorem q9Z {x:Operand}:q0o P cf e H (.nilChk x)=vNil (ev e x) H:=rfl
theorem j0V {i o:Nat}:vNil (.pointer (some ⟨i,o,none⟩)) H=some (.pointer (some ⟨i,o,none⟩),H):=rfl
def vLen (str:Bool) (x:Value) (H:q0a):Option (Value×q0a):=match str,x with|false,.slice _ n _=>some (.int .i64 n,H)|true,.string s=>some (.int .i64 s.size,H)|_,_=>none
theorem k7e {str:Bool} {x:Operand}:q0o P cf e H (.len str x)=vLen str (ev e x) H:=by
 simp only[q0o,q0N,vLen];cases str<;>cases ev e x<;>rfl
theorem j0W {a:Option Addr} {n c:Nat}:vLen false (.slice a n c) H=some (.int .i64 n,H):=rfl
theorem z7u {b:ByteArray}:vLen true (.string b) H=some (.int .i64 b.size,H):=rfl
noncomputable def z2U (x:Value) (k:Option Nat) (H:q0a):Option (Value×q0a):=(match x with
 | .pointer (some ⟨i,o,none⟩)=>match H.get i with
  | some blk=>if blk.st.mem then (match k with
   | some n=>if o+n≤blk.cells.length then some (.agg ⟨(blk.cells.drop o).take n⟩) else none
   | none=>blk.cells[o]?) else none
  | none=>none
 | _=>none:Option Value).map fun v=>(v,H)
theorem k0C {x:Operand} {k:Option Nat}:q0o P cf e H (.load x k)=z2U (ev e x) k H:=rfl
def q0l (b:Option ABlk) (o:Nat) (k:Option Nat) (H:q0a):Option (Value×q0a):=(match b with
  | some blk=>if blk.st.mem then (match k with
   | some n=>if o+n≤blk.cells.length then some (.agg ⟨(blk.cells.drop o).take n⟩) else none
   | none=>blk.cells[o]?) else none
  | none=>none:Option Value).map fun v=>(v,H)
theorem z2V {i o:Nat} {k:Option Nat}:z2U (.pointer (some ⟨i,o,none⟩)) k H=q0l (H.get i) o k H:=rfl
theorem q3d {cells:List Value} {el:TypeId} {st:St} {ver:Nat} {anc:List Nat} {o:Nat} (h:st.mem=true):q0l (some ⟨cells,el,st,ver,anc⟩) o none H=(cells[o]?).map fun v=>(v,H):=by simp[q0l,h]
theorem q4e {cells:List Value} {el:TypeId} {st:St} {ver:Nat} {anc:List Nat} {o n:Nat} (h:st.mem=true) (hn:o+n≤cells.length):q0l (some ⟨cells,el,st,ver,anc⟩) o (some n) H=some (.agg ⟨(cells.drop o).take n⟩,H):=by simp[q0l,h,hn]
theorem q0n:St.mem .tip=true:=by decide
theorem z7v:St.mem .ro=true:=by decide
theorem k5v:St.mem .ret=true:=by decide
theorem q6H {r:Operand} {name:String} {args:List Operand}:q0o P cf e H (.mop (.inv r name args))=invA P cf (ev e r) name (args.map (ev e)) H:=rfl
noncomputable def z8W (v:Value) (H:q0a):Option (Value×q0a):=match cellsOf H 1 v with
 | some cs=>(txtB ByteArray.empty cs).map fun s=>(Value.string s,H)
 | none=>none
theorem j0X {x:Operand}:q0o P cf e H (.mop (.b2s x))=z8W (ev e x) H:=rfl
theorem j0Y {x:Operand}:q0o P cf e H (.mop (.fix x))=fixA (ev e x) H:=rfl
theorem k9Y {cells:List Value} {el:TypeId}:q0o P cf e H (.alloc cells el)=some (.pointer (some ⟨H.n,0,none⟩),H.push ⟨cells,el,.tip,0,[]⟩):=rfl
noncomputable def vBox (v:Value) (el:TypeId) (H:q0a):Option (Value×q0a):=if k6e v then some (.pointer (some ⟨H.n,0,none⟩),H.push ⟨v.cells.toList,el,.tip,0,[]⟩) else none
theorem k9Z {x:Operand} {el:TypeId}:q0o P cf e H (.box x el)=vBox (ev e x) el H:=by
 simp only[q0o,newA,vBox];split<;>rfl
theorem q8H {v:Value} {el:TypeId} (h:k6e v=true):vBox v el H=some (.pointer (some ⟨H.n,0,none⟩),H.push ⟨v.cells.toList,el,.tip,0,[]⟩):=by simp[vBox,h]
noncomputable def k4k (p v:Value) (n:Nat) (H:q0a):Option (Value×q0a):=(k1E H p v n).map fun H'=>(.tuple ⟨[]⟩,H')
theorem k0a {x v:Operand} {n:Nat}:q0o P cf e H (.store x v n)=k4k (ev e x) (ev e v) n H:=rfl
noncomputable def q0u (b:Option ABlk) (i o:Nat) (v:Value) (n:Nat) (H:q0a):Option (Value×q0a):=(match b with
  | some blk=>if blk.st=.tip∧v.cells.toList.length=n∧v.cells.toList.all one=true∧o+n≤blk.cells.length then
    some ((killAll H blk.anc).upd i ⟨blk.cells.take o++v.cells.toList++blk.cells.drop (o+n),blk.elem,.tip,blk.ver+1,[]⟩) else none
  | none=>none:Option q0a).map fun H'=>(.tuple ⟨[]⟩,H')
theorem q7n {i o n:Nat} {v:Value}:k4k (.pointer (some ⟨i,o,none⟩)) v n H=q0u (H.get i) i o v n H:=rfl
theorem q0x {cells:List Value} {el:TypeId} {ver:Nat} {anc:List Nat} {i o n:Nat} {v:Value} (hl:v.cells.toList.length=n) (h1:v.cells.toList.all one=true) (hn:o+n≤cells.length) :
  q0u (some ⟨cells,el,.tip,ver,anc⟩) i o v n H=some (.tuple ⟨[]⟩,(killAll H anc).upd i ⟨cells.take o++v.cells.toList++cells.drop (o+n),el,.tip,ver+1,[]⟩):=by
 simp only[q0u]
 rw[if_pos ⟨trivial,hl,h1,hn⟩];rfl
theorem k7f {l:List Value}:(Value.agg ⟨l⟩).cells.toList=l:=rfl
theorem k7g {k:IntKind} {n:Int}:(Value.int k n).cells.toList=[.int k n]:=rfl
theorem k4l {b:Bool}:(Value.bool b).cells.toList=[.bool b]:=rfl
theorem k2E {a:Option Addr} {n c:Nat}:(Value.slice a n c).cells.toList=[.slice a n c]:=rfl
theorem k0b {a:Option Addr}:(Value.pointer a).cells.toList=[.pointer a]:=rfl
theorem k1a {b:ByteArray}:(Value.string b).cells.toList=[.string b]:=rfl
theorem k0c {k:FloatKind} {a b:Nat}:(Value.complex k a b).cells.toList=[.complex k a b]:=rfl
theorem k4m {f:Fn} {a b:Array Value}:(Value.func f a b).cells.toList=[.func f a b]:=rfl
theorem z2W {k:IntKind} {n:Int}:one (.int k n)=true:=of_eq_true (eq_self true)
theorem z0a {b:Bool}:one (.bool b)=true:=of_eq_true (eq_self true)
theorem k7h {a:Option Addr} {n c:Nat}:one (.slice a n c)=true:=of_eq_true (eq_self true)
theorem k2F {a:Option Addr}:one (.pointer a)=true:=of_eq_true (eq_self true)
theorem k4n {b:ByteArray}:one (.string b)=true:=of_eq_true (eq_self true)
theorem k2G {k:FloatKind} {a b:Nat}:one (.complex k a b)=true:=of_eq_true (eq_self true)
theorem z0b {f:Fn} {a b:Array Value}:one (.func f a b)=true:=of_eq_true (eq_self true)
theorem Tr.put_put:∀(f:Nat) (t:Tr) (i:Nat) (b b':ABlk),Tr.put f (Tr.put f t i b) i b'=Tr.put f t i b':=by
 intro f
 induction f with
 | zero=>intro t i b b';cases t<;>rfl
 | succ f ih=>
  intro t i b b'
  cases t with
  | e=>
   simp only[Tr.put_se]
   by_cases h:i=0
   ·simp only[h,if_true,Tr.put_sn]
   ·simp only[h,if_false]
    by_cases ho:i % 2=1
    ·simp only[ho,if_true,Tr.put_sn,h,if_false,ih]
    ·simp only[ho,if_false,Tr.put_sn,h,ih]
  | n v l r=>
   simp only[Tr.put_sn]
   by_cases h:i=0
   ·simp only[h,if_true,Tr.put_sn]
   ·simp only[h,if_false]
    by_cases ho:i % 2=1
    ·simp only[ho,if_true,Tr.put_sn,h,if_false,ih]
    ·simp only[ho,if_false,Tr.put_sn,h,ih]
theorem z0c {b b':ABlk}:(H.push b).upd H.n b'=H.push b':=by
 rw[q0a.upd_eq,q0a.push_eq,q0a.push_eq]
 simp only[Tr.put_put]
theorem q0b {b:ABlk}:(H.push b).get H.n=some b:=by rw[q0a.get_push,if_pos rfl]
theorem q0s {b:ABlk} {i:Nat} (h:i<H.n):(H.push b).get i=H.get i:=by rw[q0a.get_push,if_neg (by omega)]
def z1K (cf:q0F) (f:Value) (args:List Value) (H:q0a):Option (Value×q0a):=match f with|.func (.func g) first captured=>cf g (first.toList++args++captured.toList) H|_=>none
theorem k2H {f:Operand} {args:List Operand}:q0o P cf e H (.call f args)=z1K cf (ev e f) (args.map (ev e)) H:=by
 simp only[q0o,z1K];cases ev e f<;>rfl
def q2l (z:List Value) (ps:List (Nat×Nat×Value)) (H:q0a):Option (Value×q0a):=(if q3S z.length ps then some (.agg ⟨lay z (q3T ps)⟩) else none:Option Value).map fun v=>(v,H)
theorem k1x {z:List Value} {ps:List (Nat×Nat×Operand)}:q0o P cf e H (.build z ps)=q2l z (q3m e ps) H:=rfl
theorem k7i:q3m e []=[]:=rfl
theorem k4o {a b:Nat} {x:Operand} {r:List (Nat×Nat×Operand)}:q3m e ((a,b,x)::r)=(a,b,ev e x)::q3m e r:=rfl
noncomputable def q0D (el:TypeId) (n sz:Nat) (z:List Value) (ps:List (Nat×Nat×Value)) (H:q0a):Option (Value×q0a):=
 (if q3S (n*sz) ps then some (⟨lay ((List.replicate n z).flatten) (q3T ps),el,.tip,0,[]⟩,.slice (some ⟨H.n,0,none⟩) n (n+1)) else none:Option (ABlk×Value)).map fun r=>(r.2,H.push r.1)
theorem q7X {el:TypeId} {n sz:Nat} {z:List Value} {ps:List (Nat×Nat×Operand)}:q0o P cf e H (.bslice el n sz z ps)=q0D el n sz z (q3m e ps) H:=rfl
theorem z5I {el:TypeId} {n sz:Nat} {z:List Value} {ps:List (Nat×Nat×Value)} (h:q3S (n*sz) ps=true) :
  q0D el n sz z ps H=some (.slice (some ⟨H.n,0,none⟩) n (n+1),H.push ⟨lay ((List.replicate n z).flatten) (q3T ps),el,.tip,0,[]⟩):=by simp[q0D,h]
theorem q7Y {x y:Operand} {el:TypeId} {sz bytes:Nat}:q0o P cf e H (.append x y el sz bytes)=q0m H (ev e x) (ev e y) el sz bytes:=rfl
theorem z0d {fn:Fn} {a b:List Operand}:q0o P cf e H (.mkfun fn a b)=some (.func fn ⟨a.map (ev e)⟩ ⟨b.map (ev e)⟩,H):=rfl
theorem k0d {t:TypeId} {x:Operand}:q0o P cf e H (.mkface t x)=some (.iface t (ev e x),H):=rfl
def k2I (kd:Nat) (neq:Bool) (x:Value) (H:q0a):Option (Value×q0a):=((k3I kd x).map fun b=>(.bool (if neq then !b else b):Value)).map fun v=>(v,H)
theorem k1y {kd:Nat} {neq:Bool} {x:Operand}:q0o P cf e H (.isNil kd neq x)=k2I kd neq (ev e x) H:=rfl
def vMax (x y:Value) (H:q0a):Option (Value×q0a):=(match x,y with|.int k a,.int _ b=>some (.int k (if b>a then b else a))|_,_=>none:Option Value).map fun v=>(v,H)
theorem z0e {x y:Operand}:q0o P cf e H (.max2 x y)=vMax (ev e x) (ev e y) H:=rfl
theorem j0Z {k k':IntKind} {a b:Int}:vMax (.int k a) (.int k' b) H=some (.int k (if b>a then b else a),H):=rfl
def vMin (x y:Value) (H:q0a):Option (Value×q0a):=(match x,y with|.int k a,.int _ b=>some (.int k (if b<a then b else a))|_,_=>none:Option Value).map fun v=>(v,H)
theorem z0f {x y:Operand}:q0o P cf e H (.min2 x y)=vMin (ev e x) (ev e y) H:=rfl
theorem j1a {k k':IntKind} {a b:Int}:vMin (.int k a) (.int k' b) H=some (.int k (if b<a then b else a),H):=rfl
def z7w (x:Value) (agg:Bool) (off len:Nat) (H:q0a):Option (Value×q0a):=(match x with
 | .agg cs=>if agg then (if off+len≤cs.toList.length then some (.agg ⟨(cs.toList.drop off).take len⟩) else none) else cs.toList[off]?
 | _=>none:Option Value).map fun v=>(v,H)
theorem k0e {x:Operand} {agg:Bool} {off len:Nat}:q0o P cf e H (.field x agg off len)=z7w (ev e x) agg off len H:=rfl
def k4p (x i:Value) (cnt:Nat) (agg:Bool) (sz:Nat) (H:q0a):Option (Value×q0a):=(match x,i with
 | .agg cs,.int _ n=>if 0≤n∧n<cnt then (if agg then (if n.toNat*sz+sz≤cs.toList.length then some (.agg ⟨(cs.toList.drop (n.toNat*sz)).take sz⟩) else none) else cs.toList[n.toNat*sz]?) else none
 | _,_=>none:Option Value).map fun v=>(v,H)
theorem k0f {x i:Operand} {cnt sz:Nat} {agg:Bool}:q0o P cf e H (.index x i cnt agg sz)=k4p (ev e x) (ev e i) cnt agg sz H:=rfl
def k8K (x:Value) (H:q0a):Option (Value×q0a):=(match x with
 | .slice (some ⟨i,o,none⟩) _ _=>some (.slice (some ⟨i,o,none⟩) 0 0)
 | .slice none 0 0=>some (.slice none 0 0)
 | .slice (some ⟨i,o,some k⟩) 0 0=>some (.slice (some ⟨i,o,some k⟩) 0 0)
 | _=>none:Option Value).map fun v=>(v,H)
theorem k0g {x:Operand}:q0o P cf e H (.slice0 x)=k8K (ev e x) H:=rfl
theorem z0g {i o n c:Nat}:k8K (.slice (some ⟨i,o,none⟩) n c) H=some (.slice (some ⟨i,o,none⟩) 0 0,H):=rfl
theorem k7j:k8K (.slice none 0 0) H=some (.slice none 0 0,H):=rfl
def bndV (d:Int) (v:Option Value):Option Int:=match v with|none=>some d|some (.int _ j)=>some j|some _=>none
noncomputable def q3t (x:Value) (lo hi:Option Value) (sz:Nat) (H:q0a):Option (Value×q0a):=(match x with
  | .slice (some ⟨i,o,none⟩) n c=>
   match bndV n hi,bndV 0 lo,(H.get i).map (fun b=>(P.info? b.elem).map (·.size)) with
   | some h,some l,some (some s)=>if 0≤l∧l≤h∧h≤n∧s=sz then some (.slice (some ⟨i,o+l.toNat*sz,none⟩) (h.toNat-l.toNat) (if c=0 then 0 else max (h.toNat-l.toNat) (c-1-l.toNat)+1)) else none
   | _,_,_=>none
  | .slice none 0 0=>
   match bndV 0 hi,bndV 0 lo with
   | some h,some l=>if l=0∧h=0 then some (.slice none 0 0) else none
   | _,_=>none
  | .slice (some ⟨i,o,some k⟩) 0 0=>
   match bndV 0 hi,bndV 0 lo with
   | some h,some l=>if l=0∧h=0 then some (.slice (some ⟨i,o,some k⟩) 0 0) else none
   | _,_=>none
  | _=>none:Option Value).map fun v=>(v,H)
theorem z8X {d:Int} {x:Option Operand}:bndA e d x=bndV d (x.map (ev e)):=by
 cases x with
 | none=>rfl
 | some x=>simp only[bndA,bndV,Option.map_some];cases ev e x<;>rfl
theorem z0h {x:Operand} {lo hi:Option Operand} {sz:Nat}:q0o P cf e H (.slice x lo hi sz)=q3t (P:=P) (ev e x) (lo.map (ev e)) (hi.map (ev e)) sz H:=by
 simp only[q0o,q6q,q3t,z8X];rfl
theorem z0i:killAll H []=H:=rfl
theorem z7x {g:FuncId} {args:List Value}:z1K cf (.func (.func g) ⟨[]⟩ ⟨[]⟩) args H=cf g args H:=by simp[z1K]
theorem z2X {k:IntKind} {a b:Int}:q2P .add k a b=some (.int k (k.wrap (a+b))):=rfl
theorem z2Y {k:IntKind} {a b:Int}:q2P .sub k a b=some (.int k (k.wrap (a-b))):=rfl
theorem z2Z {k:IntKind} {a b:Int}:q2P .mul k a b=some (.int k (k.wrap (a*b))):=rfl
theorem z3a {k:IntKind} {a b:Int}:q2P .eql k a b=some (.bool (decide (a=b))):=by
 simp only[q2P]
 by_cases h:a=b<;>simp[h]
theorem z3b {k:IntKind} {a b:Int}:q2P .neq k a b=some (.bool (decide (a≠b))):=by
 simp only[q2P]
 by_cases h:a=b<;>simp[h,bne]
theorem z3c {k:IntKind} {a b:Int}:q2P .lss k a b=some (.bool (decide (a<b))):=rfl
theorem z3d {k:IntKind} {a b:Int}:q2P .leq k a b=some (.bool (decide (a≤b))):=rfl
theorem z3e {k:IntKind} {a b:Int}:q2P .gtr k a b=some (.bool (decide (a>b))):=rfl
theorem z3f {k:IntKind} {a b:Int}:q2P .geq k a b=some (.bool (decide (a≥b))):=rfl
theorem q0k {n:Int} (h1:-9223372036854775808≤n) (h2:n<9223372036854775808):IntKind.i64.wrap n=n:=by
 unfold IntKind.wrap
 have hb:(2:Int)^IntKind.i64.bits=18446744073709551616:=by decide
 have hb':(2:Int)^(IntKind.i64.bits-1)=9223372036854775808:=by decide
 have hs:IntKind.i64.signed=true:=rfl
 rw[hb,hb',hs]
 simp only[Bool.true_and,decide_eq_true_eq]
 split<;>omega
end
section
variable {P:Program} {Γ:FuncId→Option q0h} {Ω:q0F} {cf:q0F} {e:Env} {H:q0a}
theorem q5O {ks:List Nat} {t:Nat} (h:t∈ks):eget (forget ks e) t=eget e t:=by rw[q5E,if_pos h]
theorem k5w {ks:List Nat}:forget ks (forget ks e)=forget ks e:=by
 unfold forget
 refine List.map_congr_left fun t ht=>?_
 have:=q5O (e:=e) ht
 unfold forget at this
 rw[this]
theorem z3g {keep:List Nat} {a:q0f}:run P Γ Ω (.loop keep a) e H=k0B P Γ Ω (.loop keep a) (run P Γ Ω a (forget keep e) H):=z8V
theorem q0d {keep:List Nat} {a a':q0f} (h:a=a'):run P Γ Ω (.loop keep a) e H=k0B P Γ Ω (.loop keep a) (run P Γ Ω a' (forget keep e) H):=by subst h;exact z3g
theorem q0e {keep:List Nat} {a:q0f}:run P Γ Ω (.loop keep a) e H=run P Γ Ω (.loop keep a) (forget keep e) H:=by
 rw[z3g,z3g (e:=forget keep e),k5w]
noncomputable def fin (P:Program) (rs:List ARes) (r:Option (AEx×Env×q0a)):Option (Value×q0a):=
 match r with
 | some (.exit _,_,_)=>none
 | some (_,e,H')=>(q5R P e H' rs).map fun vs=>(k0r vs,H')
 | none=>none
theorem k8L {rs:List ARes}:fin P rs (some (.ret,e,H))=(q5R P e H rs).map fun vs=>(k0r vs,H):=rfl
theorem k0D {rs:List ARes}:fin P rs (some (.normal,e,H))=(q5R P e H rs).map fun vs=>(k0r vs,H):=rfl
theorem q0g {g:FuncId} {args:List Value} {F:q0h} (hΩ:Ω g args H=none) (hF:Γ g=some F) (hl:args.length=F.nargs):cw P Γ Ω g args H=fin P F.results (run P Γ Ω F.code (q5C args) H):=by
 cases hx:run P Γ Ω F.code (q5C args) H with
 | some r=>
  obtain ⟨x,e',H'⟩:=r
  cases x with
  | exit id=>
   cases hc:cw P Γ Ω g args H with
   | none=>rfl
   | some r=>
    obtain ⟨n,hn⟩:=q7G.1 hc
    cases n with
    | zero=>simp[q2D] at hn
    | succ n=>
     simp only[q2D,hΩ,hF,if_pos hl] at hn
     cases hy:q0t P (q2D P Γ Ω n) n F.code (q5C args) H with
     | none=>rw[hy] at hn;cases hn
     | some y=>
      have:=q2U n (q1c (z5y n) (Nat.le_refl n) hy)
      rw[hx] at this
      injection this with this
      subst this
      rw[hy] at hn
      cases hn
  | normal=>
   rw[k0D]
   cases hr:q5R P e' H' F.results with
   | some vs=>rw[z2G hΩ hF hl hx (by intro id h;cases h) hr];rfl
   | none=>
    cases hc:cw P Γ Ω g args H with
    | none=>rfl
    | some r=>
     obtain ⟨n,hn⟩:=q7G.1 hc
     cases n with
     | zero=>simp[q2D] at hn
     | succ n=>
      simp only[q2D,hΩ,hF,if_pos hl] at hn
      cases hy:q0t P (q2D P Γ Ω n) n F.code (q5C args) H with
      | none=>rw[hy] at hn;cases hn
      | some y=>
       have:=q2U n (q1c (z5y n) (Nat.le_refl n) hy)
       rw[hx] at this
       injection this with this
       subst this
       rw[hy] at hn
       simp only[hr] at hn
       cases hn
  | ret=>
   rw[k8L]
   cases hr:q5R P e' H' F.results with
   | some vs=>rw[z2G hΩ hF hl hx (by intro id h;cases h) hr];rfl
   | none=>
    cases hc:cw P Γ Ω g args H with
    | none=>rfl
    | some r=>
     obtain ⟨n,hn⟩:=q7G.1 hc
     cases n with
     | zero=>simp[q2D] at hn
     | succ n=>
      simp only[q2D,hΩ,hF,if_pos hl] at hn
      cases hy:q0t P (q2D P Γ Ω n) n F.code (q5C args) H with
      | none=>rw[hy] at hn;cases hn
      | some y=>
       have:=q2U n (q1c (z5y n) (Nat.le_refl n) hy)
       rw[hx] at this
       injection this with this
       subst this
       rw[hy] at hn
       simp only[hr] at hn
       cases hn
 | none=>
  cases hc:cw P Γ Ω g args H with
  | none=>rfl
  | some r=>
   obtain ⟨n,hn⟩:=q7G.1 hc
   cases n with
   | zero=>simp[q2D] at hn
   | succ n=>
    simp only[q2D,hΩ,hF,if_pos hl] at hn
    cases hy:q0t P (q2D P Γ Ω n) n F.code (q5C args) H with
    | none=>rw[hy] at hn;cases hn
    | some y=>
     have:=q2U n (q1c (z5y n) (Nat.le_refl n) hy)
     rw[hx] at this
     cases this
theorem k8M {g:FuncId} {args:List Value} {r:Value×q0a} (n:Nat) (h:q2D P Γ Ω n g args H=some r):cw P Γ Ω g args H=some r:=q7G.2 ⟨n,h⟩
theorem z0j:q5R P e H []=some []:=rfl
theorem z0k {t:Nat} {r:List ARes}:q5R P e H (.tmp t::r)=(q5R P e H r).map fun vs=>eget e t::vs:=by
 simp only[q5R,resA];cases q5R P e H r<;>rfl
theorem z0l {v:Value}:k0r [v]=v:=rfl
theorem z0m:k0r []=.tuple ⟨[]⟩:=rfl
theorem z0n {v u:Value} {r:List Value}:k0r (v::u::r)=.tuple ⟨v::u::r⟩:=rfl
theorem k7k {a:Value}:q5C [a]=[(0,a)]:=rfl
theorem k7l {a b:Value}:q5C [a,b]=[(0,a),(1,b)]:=rfl
theorem k2J {a b c:Value}:q5C [a,b,c]=[(0,a),(1,b),(2,c)]:=rfl
theorem k4q {a b c d:Value}:q5C [a,b,c,d]=[(0,a),(1,b),(2,c),(3,d)]:=rfl
theorem k7m:q5C []=[]:=rfl
def Out (r:Option (AEx×Env×q0a)) (Q:AEx→Env→q0a→Prop):Prop:=∃x e H,r=some (x,e,H)∧Q x e H
theorem j1b {x:AEx} {Q:AEx→Env→q0a→Prop}:Out (some (x,e,H)) Q=Q x e H:=by
 refine propext ⟨fun ⟨x',e',H',h,q⟩=>?_,fun q=>⟨x,e,H,rfl,q⟩⟩
 injection h with h
 injection h with h1 h
 injection h with h2 h3
 subst h1 h2 h3
 exact q
def q0p (r:Option (Value×q0a)) (Q:Value→q0a→Prop):Prop:=∃v H,r=some (v,H)∧Q v H
theorem z3h {v:Value} {Q:Value→q0a→Prop}:q0p (some (v,H)) Q=Q v H:=by
 refine propext ⟨fun ⟨v',H',h,q⟩=>?_,fun q=>⟨v,H,rfl,q⟩⟩
 injection h with h
 injection h with h1 h2
 subst h1 h2
 exact q
def Ext (H H':q0a):Prop:=H.n≤H'.n∧∀i,i<H.n→H'.get i=H.get i
theorem Ext.refl (H:q0a):Ext H H:=⟨Nat.le_refl _,fun _ _=>rfl⟩
theorem Ext.trans {a b c:q0a} (h:Ext a b) (k:Ext b c):Ext a c:=⟨Nat.le_trans h.1 k.1,fun i hi=>(k.2 i (by have:=h.1;omega)).trans (h.2 i hi)⟩
theorem Ext.push (H:q0a) (b:ABlk):Ext H (H.push b):=⟨by simp,fun i hi=>by rw[q0a.get_push,if_neg (by omega)]⟩
theorem Ext.get {a b:q0a} (h:Ext a b) {i:Nat} {x:ABlk} (hx:a.get i=some x):b.get i=some x:=(h.2 i (q0a.lt_of_get hx)).trans hx
theorem q0z {α:Type} {L:List α} {i:Nat} (h:i<L.length):∃p,L[i]?=some p∧L.drop i=p::L.drop (i+1):=⟨L[i],List.getElem?_eq_getElem h,List.drop_eq_getElem_cons h⟩
theorem z3i {α:Type} {f:α→List Value} {s:Nat} (hs:∀x,(f x).length=s):∀{L:List α} {i:Nat} {p:α},L[i]?=some p→((L.flatMap f).drop (i*s)).take s=f p∧i*s+s≤(L.flatMap f).length
 | [],i,p,h=>by simp at h
 | x::L,0,p,h=>by
  simp at h
  subst h
  simp[hs]
 | x::L,i+1,p,h=>by
  simp at h
  obtain ⟨h1,h2⟩:=z3i hs h
  rw[Nat.succ_mul,Nat.add_comm (i*s) s]
  simp only[List.flatMap_cons,List.length_append,hs]
  refine ⟨?_,by omega⟩
  rw[List.drop_append,List.drop_of_length_le (by rw[hs];omega),hs]
  simp[h1]
end
end Lon
namespace Lon
open Go Go.RowKit
def flat:Value→Bool
 | .tuple ⟨xs⟩=>xs.all fun x=>match x with
  | .agg ⟨ys⟩=>ys.all atom
  | x=>atom x
 | v=>q0J v
section
variable {P:Program} {σ σ':Sig} {base:Nat} {H:q0a} {w w':World}
theorem VRs.eq_flat:∀{xs ys:List Value},(xs.all fun x=>match x with|.agg ⟨ys⟩=>ys.all atom|x=>atom x)=true→VRs σ xs ys→ys=xs
 | [],ys,_,h=>by cases h;rfl
 | x::xs,[],_,h=>by cases h
 | x::xs,y::ys,h,rs0=>by
  cases rs0 with|cons _ _ _ _ r rs=>
  simp only[List.all_cons,Bool.and_eq_true] at h
  rw[VRs.eq_flat h.2 rs]
  congr 1
  have h1:=h.1
  split at h1
  ·exact VR.eq_ground (by simpa[q0J] using h1) r
  ·exact VR.eq_atom h1 r
theorem VRs.of_flat:∀{xs:List Value},(xs.all fun x=>match x with|.agg ⟨ys⟩=>ys.all atom|x=>atom x)=true→VRs σ xs xs
 | [],_=>.nil
 | x::xs,h=>by
  simp only[List.all_cons,Bool.and_eq_true] at h
  refine .cons _ _ _ _ ?_ (VRs.of_flat h.2)
  have h1:=h.1
  split at h1
  ·exact VR.of_ground (by simpa[q0J] using h1)
  ·exact VR.of_atom h1
theorem VR.eq_flat {v v':Value} (h:flat v=true) (r:VR σ v v'):v'=v:=by
 unfold flat at h
 split at h
 ·cases r with|tuple _ _ hs=>rw[VRs.eq_flat h hs]
 ·exact VR.eq_ground h r
theorem VR.of_flat {v:Value} (h:flat v=true):VR σ v v:=by
 unfold flat at h
 split at h
 ·exact .tuple _ _ (VRs.of_flat h)
 ·exact VR.of_ground h
theorem VRs.eq_grounds:∀{xs ys:List Value},xs.all q0J=true→VRs σ xs ys→ys=xs
 | [],ys,_,h=>by cases h;rfl
 | x::xs,[],_,h=>by cases h
 | x::xs,y::ys,h,rs0=>by
  cases rs0 with|cons _ _ _ _ r rs=>
  simp only[List.all_cons,Bool.and_eq_true] at h
  rw[VRs.eq_grounds h.2 rs,VR.eq_ground h.1 r]
theorem VRs.of_grounds:∀{xs:List Value},xs.all q0J=true→VRs σ xs xs
 | [],_=>.nil
 | x::xs,h=>by
  simp only[List.all_cons,Bool.and_eq_true] at h
  exact .cons _ _ _ _ (VR.of_ground h.1) (VRs.of_grounds h.2)
theorem HR.world (h:HR P σ base H w) (hs:w.heap.size≤w'.heap.size) (hk:∀k,k<w.heap.size→w'.heap[k]?=w.heap[k]?):HR P σ base H w' where
 elem:=h.elem
 out:=h.out
 lt hg hd hl:=Nat.lt_of_lt_of_le (h.lt hg hd hl) hs
 cells hg hm hl k v hv:=by
  obtain ⟨v',h1,h2⟩:=h.cells hg hm hl hv
  refine ⟨v',?_,h2⟩
  have hlt:=h.lt hg (q1u hm) hl
  simp only[World.cell?,hk _ hlt] at h1 ⊢
  exact h1
 ro:=h.ro
 own:=h.own
 row hg hm hl:=by
  obtain ⟨cur,e,z,h1,h2⟩:=h.row hg hm hl
  exact ⟨cur,e,z,by rw[hk _ (h.lt hg (q0E (z2p hm)) hl)];exact h1,h2⟩
 fits:=h.fits
 map hg hm hl:=by
  obtain ⟨es,clock,h1,h2⟩:=h.map hg hm hl
  exact ⟨es,clock,by rw[hk _ (h.lt hg (by rw[hm];intro e;cases e) hl)];exact h1,h2⟩
 sep:=h.sep
 anc:=h.anc
 ends:=h.ends
 ancJ:=h.ancJ
theorem k0E {g:FuncId} {args:List Value} {v:Value} {H':q0a} (h:∀base,Sim P base g args q0a.empty v H') (hg:args.all q0J=true) (hv:flat v=true) (base:Nat) (H:q0a):Sim P base g args H v H:=by
 refine ⟨(h 0).1,q0B.refl _,fun σ w args' hargs hh hb=>?_⟩
 have:=VRs.eq_grounds hg hargs
 subst this
 refine ((h w.heap.size).2.2 sig0 w args' (VRs.of_grounds hg) (HR.empty _ _) (Nat.le_refl _)).mono fun e w' hq=>?_
 obtain ⟨σ',v',rfl,q1,q2,q3⟩:=hq
 have hk:∀k,k<w.heap.size→w'.heap[k]?=w.heap[k]?:=fun k hk=>q3.keep k hk (fun i blk l hi _ _=>by rw[k1P] at hi;cases hi)
 refine ⟨σ,v',rfl,?_,hh.world q3.size hk,?_⟩
 ·rw[VR.eq_flat hv q1];exact VR.of_flat hv
 ·exact ⟨Sub.refl _,fun _ _=>rfl,Nat.le_refl _,q3.os,q3.tape,q3.output,q3.size,fun k hk' _=>hk k hk',fun j blk l h1 h2 h3=>.inr ⟨j,blk,l,h1,h2,h3,rfl⟩,fun i b hb=>⟨b,hb,Nat.le_refl _,rfl,fun _=>⟨rfl,id,id⟩⟩⟩
mutual
theorem VR.back (s:Sub σ σ'):∀{v u u':Value},VR σ v u→VR σ' v u'→VR σ v u'
 | _,_,_,.poison _,_=>.poison _
 | _,_,_,.bool b,h=>by cases h;exact .bool b
 | _,_,_,.int k n,h=>by cases h;exact .int k n
 | _,_,_,.float k n,h=>by cases h;exact .float k n
 | _,_,_,.complex k a b,h=>by cases h;exact .complex k a b
 | _,_,_,.string x,h=>by cases h;exact .string x
 | _,_,_,.nilPtr,h=>by cases h;exact .nilPtr
 | _,_,_,.ptr i o l hl,h=>by
  cases h with|ptr _ _ l' hl'=>
  have:=s _ _ hl
  rw[hl'] at this
  injection this with this
  subst this
  exact .ptr i o _ hl
 | _,_,_,.nilSlice,h=>by cases h;exact .nilSlice
 | _,_,_,.nilAt a,h=>by cases h;exact .nilAt _
 | _,_,_,.slice i o n c f' c' l hl _ _ _ _ _,h=>by
  cases h with|slice _ _ _ _ f2 c2 l' hl' h1 h2 h3 h4 h5=>
  have:=s _ _ hl
  rw[hl'] at this
  injection this with this
  subst this
  exact .slice i o n c f2 c2 _ hl h1 h2 h3 h4 h5
 | _,_,_,.nilMap,h=>by cases h;exact .nilMap
 | _,_,_,.map i l hl,h=>by
  cases h with|map _ l' hl'=>
  have:=s _ _ hl
  rw[hl'] at this
  injection this with this
  subst this
  exact .map i _ hl
 | _,_,_,.func fn xs ys xs' ys' hx hy,h=>by
  cases h with|func _ _ _ _ _ hx' hy'=>
  exact .func _ _ _ _ _ (VRs.back s hx hx') (VRs.back s hy hy')
 | _,_,_,.nilFunc,h=>by cases h;exact .nilFunc
 | _,_,_,.nilIface,h=>by cases h;exact .nilIface
 | _,_,_,.iface t v v' hv,h=>by
  cases h with|iface _ _ _ hv'=>
  exact .iface _ _ _ (VR.back s hv hv')
 | _,_,_,.agg xs xs' hx,h=>by
  cases h with|agg _ _ hx'=>
  exact .agg _ _ (VRs.back s hx hx')
 | _,_,_,.tuple xs xs' hx,h=>by
  cases h with|tuple _ _ hx'=>
  exact .tuple _ _ (VRs.back s hx hx')
theorem VRs.back (s:Sub σ σ'):∀{v u u':List Value},VRs σ v u→VRs σ' v u'→VRs σ v u'
 | _,_,_,.nil,h=>by cases h;exact .nil
 | _,_,_,.cons v v' vs vs' hv hs,h=>by
  cases h with|cons _ _ _ _ hv' hs'=>
  exact .cons _ _ _ _ (VR.back s hv hv') (VRs.back s hs hs')
end
theorem HR.drop {H':q0a} (h0:HR P σ base H w) (h:HR P σ' base H' w') (hf:Fr σ σ' H H' w w') (hx:Ext H H'):HR P σ base H w':=by
 have key:∀{i blk l},H.get i=some blk→σ i=some l→H'.get i=some blk∧σ' i=some l:=fun {i blk l} hg hl=>⟨hx.get hg,by rw[hf.old _ (q0a.lt_of_get hg)];exact hl⟩
 constructor
 ·intro i blk l hg hl;exact h.elem (key hg hl).1 (key hg hl).2
 ·exact h0.out
 ·intro i blk l hg hd hl;exact h.lt (key hg hl).1 hd (key hg hl).2
 ·intro i blk l hg hm hl k v hv
  obtain ⟨v',h1,h2⟩:=h.cells (key hg hl).1 hm (key hg hl).2 hv
  obtain ⟨v0,_,h4⟩:=h0.cells hg hm hl hv
  exact ⟨v',h1,VR.back hf.sub h4 h2⟩
 ·intro i blk l hg hm hl;exact h.ro (key hg hl).1 hm (key hg hl).2
 ·intro i blk l hg hm hl;exact h.own (key hg hl).1 hm (key hg hl).2
 ·intro i blk l hg hm hl;exact h.row (key hg hl).1 hm (key hg hl).2
 ·intro i blk l hg hm hl;exact h.fits (key hg hl).1 hm (key hg hl).2
 ·intro i blk l hg hm hl
  obtain ⟨es,clock,h1,h2⟩:=h.map (key hg hl).1 hm (key hg hl).2
  obtain ⟨es0,clock0,h3,h4⟩:=h0.map hg hm hl
  exact ⟨es,clock,h1,VRs.back hf.sub h4 h2⟩
 ·intro i j bi bj li lj hij gi gj oi oj ei ej he
  exact h.sep hij (key gi ei).1 (key gj ej).1 oi oj (key gi ei).2 (key gj ej).2 he
 ·intro i j bi bj gi gj oi oj hm;exact h.anc (hx.get gi) (hx.get gj) oi oj hm
 ·intro i j bi bj li lj gi gj oi oj hm ei ej he
  exact h.ends (key gi ei).1 (key gj ej).1 oi oj hm (key gi ei).2 (key gj ej).2 he
 ·exact h0.ancJ
theorem z5J {g:FuncId} {args:List Value} {v:Value} {H':q0a} (h:Sim P base g args H v H') (hx:Ext H H') (hv:flat v=true):Sim P base g args H v H:=by
 refine ⟨h.1,q0B.refl _,fun σ w args' hargs hh hb=>?_⟩
 refine (h.2.2 σ w args' hargs hh hb).mono fun e w' hq=>?_
 obtain ⟨σ',v',rfl,q1,q2,q3⟩:=hq
 refine ⟨σ,v',rfl,?_,hh.drop q2 q3 hx,?_⟩
 ·rw[VR.eq_flat hv q1];exact VR.of_flat hv
 ·exact ⟨Sub.refl _,fun _ _=>rfl,Nat.le_refl _,q3.os,q3.tape,q3.output,q3.size,q3.keep,fun j blk l h1 h2 h3=>.inr ⟨j,blk,l,h1,h2,h3,rfl⟩,fun i b hb=>⟨b,hb,Nat.le_refl _,rfl,fun _=>⟨rfl,id,id⟩⟩⟩
end
end Lon
