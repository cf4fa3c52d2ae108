/- What is proved here: a part of a statement's proof. Conditions: those that each theorem names, and no others. -/
import Derived.Test.YtfhchimfdlhmaaaLonZk
/-! The equations of a walk, gathered. -/
set_option linter.unusedSimpArgs false
set_option linter.unusedVariables false
namespace Lon
open Go
theorem WA :
  And
    (And
      (And
        (And
          (And
            (And
              (And
                (∀ {P : Go.Program} {Γ : Go.FuncId → Option Lon.AFunc} {Ω : Lon.CallF} {e : Lon.Env} {H : Lon.AHeap}
                  {rows : List Lon.ARow},
                  @Eq (Option (Prod Lon.AEx (Prod Lon.Env Lon.AHeap))) (Lon.run P Γ Ω (Lon.ACode.draw rows) e H)
                    (@Option.map (Prod Lon.Env Lon.AHeap) (Prod Lon.AEx (Prod Lon.Env Lon.AHeap))
                      (fun (x : Prod Lon.Env Lon.AHeap) =>
                        @Prod.mk Lon.AEx (Prod Lon.Env Lon.AHeap) Lon.AEx.normal
                          (@Prod.mk Lon.Env Lon.AHeap (@Prod.fst Lon.Env Lon.AHeap x) (@Prod.snd Lon.Env Lon.AHeap x)))
                      (Lon.drawA P (Lon.cw P Γ Ω) rows (@List.nil (Prod Nat Nat)) (@List.nil Nat) e H)))
                (∀ {P : Go.Program} {cf : Lon.CallF} {e : Lon.Env} {H : Lon.AHeap} {r : Lon.ARow} {rs : List Lon.ARow}
                  {l : List (Prod Nat Nat)} {F : List Nat},
                  @Eq (Option (Prod Lon.Env Lon.AHeap)) (Lon.drawA P cf (@List.cons Lon.ARow r rs) l F e H)
                    (Lon.onDraw P cf rs e (Lon.ARow.dst r)
                      (Lon.nextL (Lon.lastSt r rs)
                        (@HAppend.hAppend (List (Prod Nat Nat)) (List (Prod Nat Nat)) (List (Prod Nat Nat))
                          (@instHAppendOfAppend (List (Prod Nat Nat)) (@List.instAppend (Prod Nat Nat)))
                          (Lon.stampO (Lon.ARow.op r) e H) l))
                      (@HAppend.hAppend (List Nat) (List Nat) (List Nat)
                        (@instHAppendOfAppend (List Nat) (@List.instAppend Nat))
                        (Lon.freshI (Lon.ARow.op r) (Lon.AHeap.n H)) F)
                      (Lon.isCall (Lon.ARow.op r)) F (Lon.stillC (Lon.lastSt r rs) H l) (Lon.rowV P cf r e H))))
              (And
                (∀ {P : Go.Program} {cf : Lon.CallF} {e : Lon.Env} {rs : List Lon.ARow} {d : Nat}
                  {l : List (Prod Nat Nat)} {F' F : List Nat} {c s : Bool} {v : Go.Value} {H' : Lon.AHeap},
                  @Eq (Option (Prod Lon.Env Lon.AHeap))
                    (Lon.onDraw P cf rs e (@Option.some Nat d) l F' c F s
                      (@Option.some (Prod Go.Value Lon.AHeap) (@Prod.mk Go.Value Lon.AHeap v H')))
                    (Lon.drawGo (Bool.and (Lon.calmC c H' F) s)
                      (Lon.drawA P cf rs l F' (@List.cons (Prod Nat Go.Value) (@Prod.mk Nat Go.Value d v) e) H')))
                (And
                  (∀ {P : Go.Program} {cf : Lon.CallF} {e : Lon.Env} {rs : List Lon.ARow} {l : List (Prod Nat Nat)}
                    {F' F : List Nat} {c s : Bool} {v : Go.Value} {H' : Lon.AHeap},
                    @Eq (Option (Prod Lon.Env Lon.AHeap))
                      (Lon.onDraw P cf rs e (@Option.none Nat) l F' c F s
                        (@Option.some (Prod Go.Value Lon.AHeap) (@Prod.mk Go.Value Lon.AHeap v H')))
                      (Lon.drawGo (Bool.and (Lon.calmC c H' F) s) (Lon.drawA P cf rs l F' e H')))
                  (∀ {r : Option (Prod Lon.Env Lon.AHeap)},
                    @Eq (Option (Prod Lon.Env Lon.AHeap)) (Lon.drawGo Bool.true r) r))))
            (And
              (And (∀ {H : Lon.AHeap} {l : List (Prod Nat Nat)}, @Eq Bool (Lon.stillC Bool.false H l) Bool.true)
                (And (∀ {H : Lon.AHeap} {l : List (Prod Nat Nat)}, @Eq Bool (Lon.stillC Bool.true H l) (Lon.still H l))
                  (∀ {l : List (Prod Nat Nat)}, @Eq (List (Prod Nat Nat)) (Lon.nextL Bool.false l) l)))
              (And
                (∀ {l : List (Prod Nat Nat)},
                  @Eq (List (Prod Nat Nat)) (Lon.nextL Bool.true l) (@List.nil (Prod Nat Nat)))
                (And
                  (∀ {r r' : Lon.ARow} {rs : List Lon.ARow},
                    @Eq Bool (Lon.lastSt r (@List.cons Lon.ARow r' rs)) Bool.false)
                  (∀ {r : Lon.ARow}, @Eq Bool (Lon.lastSt r (@List.nil Lon.ARow)) (Lon.isStore (Lon.ARow.op r)))))))
          (And
            (And
              (And (∀ {H : Lon.AHeap} {F : List Nat}, @Eq Bool (Lon.calmC Bool.false H F) Bool.true)
                (And (∀ {H : Lon.AHeap}, @Eq Bool (Lon.calmC Bool.true H (@List.nil Nat)) Bool.true)
                  (∀ {H : Lon.AHeap} {i : Nat} {F : List Nat},
                    @Eq Bool (Lon.calmC Bool.true H (@List.cons Nat i F))
                      (Bool.and (Lon.calmB (Lon.AHeap.get H i)) (Lon.calmC Bool.true H F)))))
              (And
                (∀ {cells : List Go.Value} {el : Go.TypeId},
                  @Eq Bool
                    (Lon.calmB
                      (@Option.some Lon.ABlk
                        (Lon.ABlk.mk cells el Lon.St.tip (@OfNat.ofNat Nat (nat_lit 0) (instOfNatNat (nat_lit 0)))
                          (@List.nil Nat))))
                    Bool.true)
                (And
                  (∀ {P : Go.Program} {cf : Lon.CallF} {e : Lon.Env} {H : Lon.AHeap} {l : List (Prod Nat Nat)}
                    {F : List Nat},
                    @Eq (Option (Prod Lon.Env Lon.AHeap)) (Lon.drawA P cf (@List.nil Lon.ARow) l F e H)
                      (Lon.drawEnd (Lon.still H l) e H))
                  (∀ {e : Lon.Env} {H : Lon.AHeap},
                    @Eq (Option (Prod Lon.Env Lon.AHeap)) (Lon.drawEnd Bool.true e H)
                      (@Option.some (Prod Lon.Env Lon.AHeap) (@Prod.mk Lon.Env Lon.AHeap e H))))))
            (And
              (And (∀ {H : Lon.AHeap}, @Eq Bool (Lon.still H (@List.nil (Prod Nat Nat))) Bool.true)
                (And
                  (∀ {H : Lon.AHeap} {i v : Nat} {l : List (Prod Nat Nat)},
                    @Eq Bool (Lon.still H (@List.cons (Prod Nat Nat) (@Prod.mk Nat Nat i v) l))
                      (Bool.and (Lon.stillB v (Lon.AHeap.get H i)) (Lon.still H l)))
                  (∀ {cells : List Go.Value} {el : Go.TypeId} {st : Lon.St} {ver : Nat} {anc : List Nat},
                    @Eq Bool (Lon.stillB ver (@Option.some Lon.ABlk (Lon.ABlk.mk cells el st ver anc))) Bool.true)))
              (And
                (∀ {i : Nat} {cells : List Go.Value} {el : Go.TypeId} {st : Lon.St} {ver : Nat} {anc : List Nat},
                  @Eq (List (Prod Nat Nat)) (Lon.stampB i (@Option.some Lon.ABlk (Lon.ABlk.mk cells el st ver anc)))
                    (@List.cons (Prod Nat Nat) (@Prod.mk Nat Nat i ver) (@List.nil (Prod Nat Nat))))
                (And
                  (∀ {H : Lon.AHeap} {i o : Nat},
                    @Eq (List (Prod Nat Nat))
                      (Lon.stampV (Go.Value.pointer (@Option.some Go.Addr (Go.Addr.mk i o (@Option.none Nat)))) H)
                      (Lon.stampB i (Lon.AHeap.get H i)))
                  (∀ {H : Lon.AHeap} {xs : Array Go.Value},
                    @Eq (List (Prod Nat Nat)) (Lon.stampV (Go.Value.tuple xs) H) (@List.nil (Prod Nat Nat))))))))
        (And
          (And
            (And
              (And
                (∀ {H : Lon.AHeap} {i : Nat} {l : List (Prod Nat Nat)},
                  @Eq Bool
                    (Lon.still H
                      (@HAppend.hAppend (List (Prod Nat Nat)) (List (Prod Nat Nat)) (List (Prod Nat Nat))
                        (@instHAppendOfAppend (List (Prod Nat Nat)) (@List.instAppend (Prod Nat Nat)))
                        (Lon.stampB i (Lon.AHeap.get H i)) l))
                    (Lon.still H l))
                (And (∀ {H : Lon.AHeap} {i : Nat}, @Eq Bool (Lon.still H (Lon.stampB i (Lon.AHeap.get H i))) Bool.true)
                  (∀ {e : Lon.Env} {H : Lon.AHeap} {x : Lon.AEx} {Q : Lon.AEx → Lon.Env → Lon.AHeap → Prop},
                    @Eq Prop
                      (Lon.Out
                        (@Option.some (Prod Lon.AEx (Prod Lon.Env Lon.AHeap))
                          (@Prod.mk Lon.AEx (Prod Lon.Env Lon.AHeap) x (@Prod.mk Lon.Env Lon.AHeap e H)))
                        Q)
                      (Q x e H))))
              (And
                (∀ {H : Lon.AHeap} {v : Go.Value} {Q : Go.Value → Lon.AHeap → Prop},
                  @Eq Prop (Lon.Gives (@Option.some (Prod Go.Value Lon.AHeap) (@Prod.mk Go.Value Lon.AHeap v H)) Q)
                    (Q v H))
                (And
                  (∀ {P : Go.Program} {e : Lon.Env} {H : Lon.AHeap} {rs : List Lon.ARes},
                    @Eq (Option (Prod Go.Value Lon.AHeap))
                      (Lon.fin P rs
                        (@Option.some (Prod Lon.AEx (Prod Lon.Env Lon.AHeap))
                          (@Prod.mk Lon.AEx (Prod Lon.Env Lon.AHeap) Lon.AEx.ret (@Prod.mk Lon.Env Lon.AHeap e H))))
                      (@Option.map (List Go.Value) (Prod Go.Value Lon.AHeap)
                        (fun (vs : List Go.Value) => @Prod.mk Go.Value Lon.AHeap (Lon.packA vs) H) (Lon.ressA P e H rs)))
                  (∀ {P : Go.Program} {e : Lon.Env} {H : Lon.AHeap} {rs : List Lon.ARes},
                    @Eq (Option (Prod Go.Value Lon.AHeap))
                      (Lon.fin P rs
                        (@Option.some (Prod Lon.AEx (Prod Lon.Env Lon.AHeap))
                          (@Prod.mk Lon.AEx (Prod Lon.Env Lon.AHeap) Lon.AEx.normal (@Prod.mk Lon.Env Lon.AHeap e H))))
                      (@Option.map (List Go.Value) (Prod Go.Value Lon.AHeap)
                        (fun (vs : List Go.Value) => @Prod.mk Go.Value Lon.AHeap (Lon.packA vs) H)
                        (Lon.ressA P e H rs))))))
            (And
              (And
                (∀ {P : Go.Program} {e : Lon.Env} {H : Lon.AHeap},
                  @Eq (Option (List Go.Value)) (Lon.ressA P e H (@List.nil Lon.ARes))
                    (@Option.some (List Go.Value) (@List.nil Go.Value)))
                (And
                  (∀ {P : Go.Program} {e : Lon.Env} {H : Lon.AHeap} {t : Nat} {r : List Lon.ARes},
                    @Eq (Option (List Go.Value)) (Lon.ressA P e H (@List.cons Lon.ARes (Lon.ARes.tmp t) r))
                      (@Option.map (List Go.Value) (List Go.Value)
                        (fun (vs : List Go.Value) => @List.cons Go.Value (Lon.eget e t) vs) (Lon.ressA P e H r)))
                  (∀ {v : Go.Value}, @Eq Go.Value (Lon.packA (@List.cons Go.Value v (@List.nil Go.Value))) v)))
              (And
                (@Eq Go.Value (Lon.packA (@List.nil Go.Value)) (Go.Value.tuple (@Array.mk Go.Value (@List.nil Go.Value))))
                (And
                  (∀ {v u : Go.Value} {r : List Go.Value},
                    @Eq Go.Value (Lon.packA (@List.cons Go.Value v (@List.cons Go.Value u r)))
                      (Go.Value.tuple (@Array.mk Go.Value (@List.cons Go.Value v (@List.cons Go.Value u r)))))
                  (@Eq Lon.Env (Lon.entry (@List.nil Go.Value)) (@List.nil (Prod Nat Go.Value)))))))
          (And
            (And
              (And
                (∀ {a : Go.Value},
                  @Eq Lon.Env (Lon.entry (@List.cons Go.Value a (@List.nil Go.Value)))
                    (@List.cons (Prod Nat Go.Value)
                      (@Prod.mk Nat Go.Value (@OfNat.ofNat Nat (nat_lit 0) (instOfNatNat (nat_lit 0))) a)
                      (@List.nil (Prod Nat Go.Value))))
                (And
                  (∀ {a b : Go.Value},
                    @Eq Lon.Env (Lon.entry (@List.cons Go.Value a (@List.cons Go.Value b (@List.nil Go.Value))))
                      (@List.cons (Prod Nat Go.Value)
                        (@Prod.mk Nat Go.Value (@OfNat.ofNat Nat (nat_lit 0) (instOfNatNat (nat_lit 0))) a)
                        (@List.cons (Prod Nat Go.Value)
                          (@Prod.mk Nat Go.Value (@OfNat.ofNat Nat (nat_lit 1) (instOfNatNat (nat_lit 1))) b)
                          (@List.nil (Prod Nat Go.Value)))))
                  (∀ {a b c : Go.Value},
                    @Eq Lon.Env
                      (Lon.entry
                        (@List.cons Go.Value a (@List.cons Go.Value b (@List.cons Go.Value c (@List.nil Go.Value)))))
                      (@List.cons (Prod Nat Go.Value)
                        (@Prod.mk Nat Go.Value (@OfNat.ofNat Nat (nat_lit 0) (instOfNatNat (nat_lit 0))) a)
                        (@List.cons (Prod Nat Go.Value)
                          (@Prod.mk Nat Go.Value (@OfNat.ofNat Nat (nat_lit 1) (instOfNatNat (nat_lit 1))) b)
                          (@List.cons (Prod Nat Go.Value)
                            (@Prod.mk Nat Go.Value (@OfNat.ofNat Nat (nat_lit 2) (instOfNatNat (nat_lit 2))) c)
                            (@List.nil (Prod Nat Go.Value))))))))
              (And
                (∀ {a b c d : Go.Value},
                  @Eq Lon.Env
                    (Lon.entry
                      (@List.cons Go.Value a
                        (@List.cons Go.Value b (@List.cons Go.Value c (@List.cons Go.Value d (@List.nil Go.Value))))))
                    (@List.cons (Prod Nat Go.Value)
                      (@Prod.mk Nat Go.Value (@OfNat.ofNat Nat (nat_lit 0) (instOfNatNat (nat_lit 0))) a)
                      (@List.cons (Prod Nat Go.Value)
                        (@Prod.mk Nat Go.Value (@OfNat.ofNat Nat (nat_lit 1) (instOfNatNat (nat_lit 1))) b)
                        (@List.cons (Prod Nat Go.Value)
                          (@Prod.mk Nat Go.Value (@OfNat.ofNat Nat (nat_lit 2) (instOfNatNat (nat_lit 2))) c)
                          (@List.cons (Prod Nat Go.Value)
                            (@Prod.mk Nat Go.Value (@OfNat.ofNat Nat (nat_lit 3) (instOfNatNat (nat_lit 3))) d)
                            (@List.nil (Prod Nat Go.Value)))))))
                (And
                  (∀ {P : Go.Program} {Γ : Go.FuncId → Option Lon.AFunc} {Ω : Lon.CallF} {e : Lon.Env} {H : Lon.AHeap},
                    @Eq (Option (Prod Lon.AEx (Prod Lon.Env Lon.AHeap))) (Lon.run P Γ Ω Lon.ACode.skip e H)
                      (@Option.some (Prod Lon.AEx (Prod Lon.Env Lon.AHeap))
                        (@Prod.mk Lon.AEx (Prod Lon.Env Lon.AHeap) Lon.AEx.normal (@Prod.mk Lon.Env Lon.AHeap e H))))
                  (∀ {P : Go.Program} {Γ : Go.FuncId → Option Lon.AFunc} {Ω : Lon.CallF} {e : Lon.Env} {H : Lon.AHeap}
                    {id : Nat},
                    @Eq (Option (Prod Lon.AEx (Prod Lon.Env Lon.AHeap))) (Lon.run P Γ Ω (Lon.ACode.exit id) e H)
                      (@Option.some (Prod Lon.AEx (Prod Lon.Env Lon.AHeap))
                        (@Prod.mk Lon.AEx (Prod Lon.Env Lon.AHeap) (Lon.AEx.exit id)
                          (@Prod.mk Lon.Env Lon.AHeap e H)))))))
            (And
              (And
                (∀ {P : Go.Program} {Γ : Go.FuncId → Option Lon.AFunc} {Ω : Lon.CallF} {e : Lon.Env} {H : Lon.AHeap},
                  @Eq (Option (Prod Lon.AEx (Prod Lon.Env Lon.AHeap))) (Lon.run P Γ Ω Lon.ACode.ret e H)
                    (@Option.some (Prod Lon.AEx (Prod Lon.Env Lon.AHeap))
                      (@Prod.mk Lon.AEx (Prod Lon.Env Lon.AHeap) Lon.AEx.ret (@Prod.mk Lon.Env Lon.AHeap e H))))
                (And
                  (∀ {P : Go.Program} {Γ : Go.FuncId → Option Lon.AFunc} {Ω : Lon.CallF} {e : Lon.Env} {H : Lon.AHeap}
                    {rows : List Lon.ARow},
                    @Eq (Option (Prod Lon.AEx (Prod Lon.Env Lon.AHeap))) (Lon.run P Γ Ω (Lon.ACode.ops rows) e H)
                      (@Option.map (Prod Lon.Env Lon.AHeap) (Prod Lon.AEx (Prod Lon.Env Lon.AHeap))
                        (fun (x : Prod Lon.Env Lon.AHeap) =>
                          @Prod.mk Lon.AEx (Prod Lon.Env Lon.AHeap) Lon.AEx.normal
                            (@Prod.mk Lon.Env Lon.AHeap (@Prod.fst Lon.Env Lon.AHeap x) (@Prod.snd Lon.Env Lon.AHeap x)))
                        (Lon.rowsA P (Lon.cw P Γ Ω) rows e H)))
                  (∀ {e : Lon.Env} {H : Lon.AHeap},
                    @Eq (Option (Prod Lon.AEx (Prod Lon.Env Lon.AHeap)))
                      (@Option.map (Prod Lon.Env Lon.AHeap) (Prod Lon.AEx (Prod Lon.Env Lon.AHeap))
                        (fun (x : Prod Lon.Env Lon.AHeap) =>
                          @Prod.mk Lon.AEx (Prod Lon.Env Lon.AHeap) Lon.AEx.normal
                            (@Prod.mk Lon.Env Lon.AHeap (@Prod.fst Lon.Env Lon.AHeap x) (@Prod.snd Lon.Env Lon.AHeap x)))
                        (@Option.some (Prod Lon.Env Lon.AHeap) (@Prod.mk Lon.Env Lon.AHeap e H)))
                      (@Option.some (Prod Lon.AEx (Prod Lon.Env Lon.AHeap))
                        (@Prod.mk Lon.AEx (Prod Lon.Env Lon.AHeap) Lon.AEx.normal (@Prod.mk Lon.Env Lon.AHeap e H))))))
              (And
                (∀ {P : Go.Program} {Γ : Go.FuncId → Option Lon.AFunc} {Ω : Lon.CallF} {e : Lon.Env} {H : Lon.AHeap}
                  {a b : Lon.ACode},
                  @Eq (Option (Prod Lon.AEx (Prod Lon.Env Lon.AHeap))) (Lon.run P Γ Ω (Lon.ACode.seq a b) e H)
                    (Lon.thenRun P Γ Ω b (Lon.run P Γ Ω a e H)))
                (And
                  (∀ {P : Go.Program} {Γ : Go.FuncId → Option Lon.AFunc} {Ω : Lon.CallF} {e : Lon.Env} {H : Lon.AHeap}
                    {b : Lon.ACode},
                    @Eq (Option (Prod Lon.AEx (Prod Lon.Env Lon.AHeap)))
                      (Lon.thenRun P Γ Ω b
                        (@Option.some (Prod Lon.AEx (Prod Lon.Env Lon.AHeap))
                          (@Prod.mk Lon.AEx (Prod Lon.Env Lon.AHeap) Lon.AEx.normal (@Prod.mk Lon.Env Lon.AHeap e H))))
                      (Lon.run P Γ Ω b e H))
                  (∀ {P : Go.Program} {Γ : Go.FuncId → Option Lon.AFunc} {Ω : Lon.CallF} {e : Lon.Env} {H : Lon.AHeap}
                    {b : Lon.ACode},
                    @Eq (Option (Prod Lon.AEx (Prod Lon.Env Lon.AHeap)))
                      (Lon.thenRun P Γ Ω b
                        (@Option.some (Prod Lon.AEx (Prod Lon.Env Lon.AHeap))
                          (@Prod.mk Lon.AEx (Prod Lon.Env Lon.AHeap) Lon.AEx.ret (@Prod.mk Lon.Env Lon.AHeap e H))))
                      (@Option.some (Prod Lon.AEx (Prod Lon.Env Lon.AHeap))
                        (@Prod.mk Lon.AEx (Prod Lon.Env Lon.AHeap) Lon.AEx.ret (@Prod.mk Lon.Env Lon.AHeap e H))))))))))
      (And
        (And
          (And
            (And
              (And
                (∀ {P : Go.Program} {Γ : Go.FuncId → Option Lon.AFunc} {Ω : Lon.CallF} {e : Lon.Env} {H : Lon.AHeap}
                  {b : Lon.ACode} {id : Nat},
                  @Eq (Option (Prod Lon.AEx (Prod Lon.Env Lon.AHeap)))
                    (Lon.thenRun P Γ Ω b
                      (@Option.some (Prod Lon.AEx (Prod Lon.Env Lon.AHeap))
                        (@Prod.mk Lon.AEx (Prod Lon.Env Lon.AHeap) (Lon.AEx.exit id) (@Prod.mk Lon.Env Lon.AHeap e H))))
                    (@Option.some (Prod Lon.AEx (Prod Lon.Env Lon.AHeap))
                      (@Prod.mk Lon.AEx (Prod Lon.Env Lon.AHeap) (Lon.AEx.exit id) (@Prod.mk Lon.Env Lon.AHeap e H))))
                (And
                  (∀ {P : Go.Program} {Γ : Go.FuncId → Option Lon.AFunc} {Ω : Lon.CallF} {e : Lon.Env} {H : Lon.AHeap}
                    {q : Go.Operand} {a b : Lon.ACode},
                    @Eq (Option (Prod Lon.AEx (Prod Lon.Env Lon.AHeap))) (Lon.run P Γ Ω (Lon.ACode.cond q a b) e H)
                      (Lon.fork P Γ Ω a b e H (Lon.ev e q)))
                  (∀ {P : Go.Program} {Γ : Go.FuncId → Option Lon.AFunc} {Ω : Lon.CallF} {e : Lon.Env} {H : Lon.AHeap}
                    {a b : Lon.ACode},
                    @Eq (Option (Prod Lon.AEx (Prod Lon.Env Lon.AHeap)))
                      (Lon.fork P Γ Ω a b e H (Go.Value.bool Bool.true)) (Lon.run P Γ Ω a e H))))
              (And
                (∀ {P : Go.Program} {Γ : Go.FuncId → Option Lon.AFunc} {Ω : Lon.CallF} {e : Lon.Env} {H : Lon.AHeap}
                  {a b : Lon.ACode},
                  @Eq (Option (Prod Lon.AEx (Prod Lon.Env Lon.AHeap))) (Lon.fork P Γ Ω a b e H (Go.Value.bool Bool.false))
                    (Lon.run P Γ Ω b e H))
                (And
                  (∀ {P : Go.Program} {Γ : Go.FuncId → Option Lon.AFunc} {Ω : Lon.CallF} {e : Lon.Env} {H : Lon.AHeap}
                    {id : Nat} {a : Lon.ACode},
                    @Eq (Option (Prod Lon.AEx (Prod Lon.Env Lon.AHeap))) (Lon.run P Γ Ω (Lon.ACode.block id a) e H)
                      (Lon.inBlock id (Lon.run P Γ Ω a e H)))
                  (∀ {e : Lon.Env} {H : Lon.AHeap} {id : Nat},
                    @Eq (Option (Prod Lon.AEx (Prod Lon.Env Lon.AHeap)))
                      (Lon.inBlock id
                        (@Option.some (Prod Lon.AEx (Prod Lon.Env Lon.AHeap))
                          (@Prod.mk Lon.AEx (Prod Lon.Env Lon.AHeap) Lon.AEx.normal (@Prod.mk Lon.Env Lon.AHeap e H))))
                      (@Option.some (Prod Lon.AEx (Prod Lon.Env Lon.AHeap))
                        (@Prod.mk Lon.AEx (Prod Lon.Env Lon.AHeap) Lon.AEx.normal (@Prod.mk Lon.Env Lon.AHeap e H)))))))
            (And
              (And
                (∀ {e : Lon.Env} {H : Lon.AHeap} {id : Nat},
                  @Eq (Option (Prod Lon.AEx (Prod Lon.Env Lon.AHeap)))
                    (Lon.inBlock id
                      (@Option.some (Prod Lon.AEx (Prod Lon.Env Lon.AHeap))
                        (@Prod.mk Lon.AEx (Prod Lon.Env Lon.AHeap) Lon.AEx.ret (@Prod.mk Lon.Env Lon.AHeap e H))))
                    (@Option.some (Prod Lon.AEx (Prod Lon.Env Lon.AHeap))
                      (@Prod.mk Lon.AEx (Prod Lon.Env Lon.AHeap) Lon.AEx.ret (@Prod.mk Lon.Env Lon.AHeap e H))))
                (And
                  (∀ {e : Lon.Env} {H : Lon.AHeap} {id id' : Nat},
                    @Eq (Option (Prod Lon.AEx (Prod Lon.Env Lon.AHeap)))
                      (Lon.inBlock id
                        (@Option.some (Prod Lon.AEx (Prod Lon.Env Lon.AHeap))
                          (@Prod.mk Lon.AEx (Prod Lon.Env Lon.AHeap) (Lon.AEx.exit id')
                            (@Prod.mk Lon.Env Lon.AHeap e H))))
                      (@ite (Option (Prod Lon.AEx (Prod Lon.Env Lon.AHeap))) (@Eq Nat id' id) (instDecidableEqNat id' id)
                        (@Option.some (Prod Lon.AEx (Prod Lon.Env Lon.AHeap))
                          (@Prod.mk Lon.AEx (Prod Lon.Env Lon.AHeap) Lon.AEx.normal (@Prod.mk Lon.Env Lon.AHeap e H)))
                        (@Option.some (Prod Lon.AEx (Prod Lon.Env Lon.AHeap))
                          (@Prod.mk Lon.AEx (Prod Lon.Env Lon.AHeap) (Lon.AEx.exit id')
                            (@Prod.mk Lon.Env Lon.AHeap e H)))))
                  (∀ {P : Go.Program} {cf : Lon.CallF} {e : Lon.Env} {H : Lon.AHeap},
                    @Eq (Option (Prod Lon.Env Lon.AHeap)) (Lon.rowsA P cf (@List.nil Lon.ARow) e H)
                      (@Option.some (Prod Lon.Env Lon.AHeap) (@Prod.mk Lon.Env Lon.AHeap e H)))))
              (And
                (∀ {P : Go.Program} {cf : Lon.CallF} {e : Lon.Env} {H : Lon.AHeap} {r : Lon.ARow} {rs : List Lon.ARow},
                  @Eq (Option (Prod Lon.Env Lon.AHeap)) (Lon.rowsA P cf (@List.cons Lon.ARow r rs) e H)
                    (Lon.onward P cf rs e (Lon.ARow.dst r) (Lon.rowV P cf r e H)))
                (And
                  (∀ {P : Go.Program} {cf : Lon.CallF} {e : Lon.Env} {rs : List Lon.ARow} {d : Nat} {v : Go.Value}
                    {H' : Lon.AHeap},
                    @Eq (Option (Prod Lon.Env Lon.AHeap))
                      (Lon.onward P cf rs e (@Option.some Nat d)
                        (@Option.some (Prod Go.Value Lon.AHeap) (@Prod.mk Go.Value Lon.AHeap v H')))
                      (Lon.rowsA P cf rs (@List.cons (Prod Nat Go.Value) (@Prod.mk Nat Go.Value d v) e) H'))
                  (∀ {P : Go.Program} {cf : Lon.CallF} {e : Lon.Env} {rs : List Lon.ARow} {v : Go.Value} {H' : Lon.AHeap},
                    @Eq (Option (Prod Lon.Env Lon.AHeap))
                      (Lon.onward P cf rs e (@Option.none Nat)
                        (@Option.some (Prod Go.Value Lon.AHeap) (@Prod.mk Go.Value Lon.AHeap v H')))
                      (Lon.rowsA P cf rs e H'))))))
          (And
            (And
              (And
                (∀ {P : Go.Program} {cf : Lon.CallF} {e : Lon.Env} {H : Lon.AHeap} {d : Option Nat} {o : Lon.AOp},
                  @Eq (Option (Prod Go.Value Lon.AHeap))
                    (Lon.rowV P cf (Lon.ARow.mk d o (@Option.none (Prod Nat Bool))) e H) (Lon.stepA P cf e H o))
                (And
                  (∀ {P : Go.Program} {cf : Lon.CallF} {e : Lon.Env} {H : Lon.AHeap} {d : Option Nat} {o : Lon.AOp}
                    {t : Nat} {want : Bool},
                    @Eq (Option (Prod Go.Value Lon.AHeap))
                      (Lon.rowV P cf (Lon.ARow.mk d o (@Option.some (Prod Nat Bool) (@Prod.mk Nat Bool t want))) e H)
                      (Lon.guarded P cf e H o want (Lon.eget e t)))
                  (∀ {P : Go.Program} {cf : Lon.CallF} {e : Lon.Env} {H : Lon.AHeap} {o : Lon.AOp},
                    @Eq (Option (Prod Go.Value Lon.AHeap)) (Lon.guarded P cf e H o Bool.true (Go.Value.bool Bool.true))
                      (Lon.stepA P cf e H o))))
              (And
                (∀ {P : Go.Program} {cf : Lon.CallF} {e : Lon.Env} {H : Lon.AHeap} {o : Lon.AOp},
                  @Eq (Option (Prod Go.Value Lon.AHeap)) (Lon.guarded P cf e H o Bool.false (Go.Value.bool Bool.false))
                    (Lon.stepA P cf e H o))
                (And
                  (∀ {P : Go.Program} {cf : Lon.CallF} {e : Lon.Env} {H : Lon.AHeap} {o : Lon.AOp},
                    @Eq (Option (Prod Go.Value Lon.AHeap)) (Lon.guarded P cf e H o Bool.true (Go.Value.bool Bool.false))
                      (@Option.some (Prod Go.Value Lon.AHeap)
                        (@Prod.mk Go.Value Lon.AHeap (Go.Value.tuple (@Array.mk Go.Value (@List.nil Go.Value))) H)))
                  (∀ {P : Go.Program} {cf : Lon.CallF} {e : Lon.Env} {H : Lon.AHeap} {o : Lon.AOp},
                    @Eq (Option (Prod Go.Value Lon.AHeap)) (Lon.guarded P cf e H o Bool.false (Go.Value.bool Bool.true))
                      (@Option.some (Prod Go.Value Lon.AHeap)
                        (@Prod.mk Go.Value Lon.AHeap (Go.Value.tuple (@Array.mk Go.Value (@List.nil Go.Value))) H))))))
            (And
              (And
                (∀ {P : Go.Program} {cf : Lon.CallF} {e : Lon.Env} {H : Lon.AHeap} {o : Lon.AOp} {b : Bool},
                  @Eq (Option (Prod Go.Value Lon.AHeap))
                    (Lon.guarded P cf e H o b (Go.Value.tuple (@Array.mk Go.Value (@List.nil Go.Value))))
                    (@Option.some (Prod Go.Value Lon.AHeap)
                      (@Prod.mk Go.Value Lon.AHeap (Go.Value.tuple (@Array.mk Go.Value (@List.nil Go.Value))) H)))
                (And (∀ {e : Lon.Env} {t : Nat}, @Eq Go.Value (Lon.ev e (Go.Operand.tmp t)) (Lon.eget e t))
                  (∀ {e : Lon.Env} {k : Go.IntKind} {n : Int},
                    @Eq Go.Value (Lon.ev e (Go.Operand.const (Go.Value.int k n))) (Go.Value.int k n))))
              (And
                (∀ {e : Lon.Env} {b : Bool},
                  @Eq Go.Value (Lon.ev e (Go.Operand.const (Go.Value.bool b))) (Go.Value.bool b))
                (And
                  (∀ {e : Lon.Env} {b : ByteArray},
                    @Eq Go.Value (Lon.ev e (Go.Operand.const (Go.Value.string b))) (Go.Value.string b))
                  (∀ {e : Lon.Env},
                    @Eq Go.Value
                      (Lon.ev e
                        (Go.Operand.const
                          (Go.Value.slice (@Option.none Go.Addr) (@OfNat.ofNat Nat (nat_lit 0) (instOfNatNat (nat_lit 0)))
                            (@OfNat.ofNat Nat (nat_lit 0) (instOfNatNat (nat_lit 0))))))
                      (Go.Value.slice (@Option.none Go.Addr) (@OfNat.ofNat Nat (nat_lit 0) (instOfNatNat (nat_lit 0)))
                        (@OfNat.ofNat Nat (nat_lit 0) (instOfNatNat (nat_lit 0))))))))))
        (And
          (And
            (And
              (And
                (∀ {e : Lon.Env},
                  @Eq Go.Value (Lon.ev e (Go.Operand.const (Go.Value.pointer (@Option.none Go.Addr))))
                    (Go.Value.pointer (@Option.none Go.Addr)))
                (And
                  (∀ {e : Lon.Env},
                    @Eq Go.Value (Lon.ev e (Go.Operand.const (Go.Value.map (@Option.none Nat))))
                      (Go.Value.map (@Option.none Nat)))
                  (∀ {e : Lon.Env} {k : Go.FloatKind} {n : Nat},
                    @Eq Go.Value (Lon.ev e (Go.Operand.const (Go.Value.float k n))) (Go.Value.float k n))))
              (And
                (∀ {e : Lon.Env} {k : Go.FloatKind} {a b : Nat},
                  @Eq Go.Value (Lon.ev e (Go.Operand.const (Go.Value.complex k a b))) (Go.Value.complex k a b))
                (And (∀ {e : Lon.Env}, @Eq Go.Value (Lon.ev e (Go.Operand.const Go.Value.nilIface)) Go.Value.nilIface)
                  (∀ {e : Lon.Env}, @Eq Go.Value (Lon.ev e (Go.Operand.const Go.Value.nilFunc)) Go.Value.nilFunc))))
            (And
              (And
                (∀ {e : Lon.Env} {f : Go.FuncId},
                  @Eq Go.Value (Lon.ev e (Go.Operand.func f))
                    (Go.Value.func (Go.Fn.func f) (@Array.mk Go.Value (@List.nil Go.Value))
                      (@Array.mk Go.Value (@List.nil Go.Value))))
                (And
                  (∀ (k : Nat) (v : Go.Value) (e : Lon.Env) (t : Nat),
                    @Eq Go.Value (Lon.eget (@List.cons (Prod Nat Go.Value) (@Prod.mk Nat Go.Value k v) e) t)
                      (@ite Go.Value (@Eq Nat k t) (instDecidableEqNat k t) v (Lon.eget e t)))
                  (∀ (t : Nat), @Eq Go.Value (Lon.eget (@List.nil (Prod Nat Go.Value)) t) Lon.poison)))
              (And
                (∀ {P : Go.Program} {cf : Lon.CallF} {e : Lon.Env} {H : Lon.AHeap} {x : Go.Operand},
                  @Eq (Option (Prod Go.Value Lon.AHeap)) (Lon.stepA P cf e H (Lon.AOp.mv x))
                    (@Option.some (Prod Go.Value Lon.AHeap) (@Prod.mk Go.Value Lon.AHeap (Lon.ev e x) H)))
                (And
                  (∀ {P : Go.Program} {cf : Lon.CallF} {e : Lon.Env} {H : Lon.AHeap} {c a b : Go.Operand},
                    @Eq (Option (Prod Go.Value Lon.AHeap)) (Lon.stepA P cf e H (Lon.AOp.pick c a b))
                      (Lon.vPick (Lon.ev e c) (Lon.ev e a) (Lon.ev e b) H))
                  (∀ {H : Lon.AHeap} {a b : Go.Value},
                    @Eq (Option (Prod Go.Value Lon.AHeap)) (Lon.vPick (Go.Value.bool Bool.true) a b H)
                      (@Option.some (Prod Go.Value Lon.AHeap) (@Prod.mk Go.Value Lon.AHeap a H)))))))
          (And
            (And
              (And
                (∀ {H : Lon.AHeap} {a b : Go.Value},
                  @Eq (Option (Prod Go.Value Lon.AHeap)) (Lon.vPick (Go.Value.bool Bool.false) a b H)
                    (@Option.some (Prod Go.Value Lon.AHeap) (@Prod.mk Go.Value Lon.AHeap b H)))
                (And
                  (∀ {P : Go.Program} {cf : Lon.CallF} {e : Lon.Env} {H : Lon.AHeap} {t : Go.Operand} {ix : Nat},
                    @Eq (Option (Prod Go.Value Lon.AHeap)) (Lon.stepA P cf e H (Lon.AOp.ext t ix))
                      (Lon.vExt (Lon.ev e t) ix H))
                  (∀ {H : Lon.AHeap} {a : Go.Value} {r : List Go.Value},
                    @Eq (Option (Prod Go.Value Lon.AHeap))
                      (Lon.vExt (Go.Value.tuple (@Array.mk Go.Value (@List.cons Go.Value a r)))
                        (@OfNat.ofNat Nat (nat_lit 0) (instOfNatNat (nat_lit 0))) H)
                      (@Option.some (Prod Go.Value Lon.AHeap) (@Prod.mk Go.Value Lon.AHeap a H)))))
              (And
                (∀ {H : Lon.AHeap} {a b : Go.Value} {r : List Go.Value},
                  @Eq (Option (Prod Go.Value Lon.AHeap))
                    (Lon.vExt (Go.Value.tuple (@Array.mk Go.Value (@List.cons Go.Value a (@List.cons Go.Value b r))))
                      (@OfNat.ofNat Nat (nat_lit 1) (instOfNatNat (nat_lit 1))) H)
                    (@Option.some (Prod Go.Value Lon.AHeap) (@Prod.mk Go.Value Lon.AHeap b H)))
                (And
                  (∀ {H : Lon.AHeap} {a b c : Go.Value} {r : List Go.Value},
                    @Eq (Option (Prod Go.Value Lon.AHeap))
                      (Lon.vExt
                        (Go.Value.tuple
                          (@Array.mk Go.Value (@List.cons Go.Value a (@List.cons Go.Value b (@List.cons Go.Value c r)))))
                        (@OfNat.ofNat Nat (nat_lit 2) (instOfNatNat (nat_lit 2))) H)
                      (@Option.some (Prod Go.Value Lon.AHeap) (@Prod.mk Go.Value Lon.AHeap c H)))
                  (∀ {H : Lon.AHeap} {a b c d : Go.Value} {r : List Go.Value},
                    @Eq (Option (Prod Go.Value Lon.AHeap))
                      (Lon.vExt
                        (Go.Value.tuple
                          (@Array.mk Go.Value
                            (@List.cons Go.Value a
                              (@List.cons Go.Value b (@List.cons Go.Value c (@List.cons Go.Value d r))))))
                        (@OfNat.ofNat Nat (nat_lit 3) (instOfNatNat (nat_lit 3))) H)
                      (@Option.some (Prod Go.Value Lon.AHeap) (@Prod.mk Go.Value Lon.AHeap d H))))))
            (And
              (And
                (∀ {P : Go.Program} {cf : Lon.CallF} {e : Lon.Env} {H : Lon.AHeap} {op : Go.BinOp} {x y : Go.Operand},
                  @Eq (Option (Prod Go.Value Lon.AHeap)) (Lon.stepA P cf e H (Lon.AOp.int op x y))
                    (Lon.vInt op (Lon.ev e x) (Lon.ev e y) H))
                (And
                  (∀ {H : Lon.AHeap} {op : Go.BinOp} {k : Go.IntKind} {a b : Int},
                    @Eq (Option (Prod Go.Value Lon.AHeap)) (Lon.vInt op (Go.Value.int k a) (Go.Value.int k b) H)
                      (@Option.map Go.Value (Prod Go.Value Lon.AHeap)
                        (fun (v : Go.Value) => @Prod.mk Go.Value Lon.AHeap v H) (Lon.intOp op k a b)))
                  (∀ {k : Go.IntKind} {a b : Int},
                    @Eq (Option Go.Value) (Lon.intOp Go.BinOp.add k a b)
                      (@Option.some Go.Value
                        (Go.Value.int k (Go.IntKind.wrap k (@HAdd.hAdd Int Int Int (@instHAdd Int Int.instAdd) a b)))))))
              (And
                (∀ {k : Go.IntKind} {a b : Int},
                  @Eq (Option Go.Value) (Lon.intOp Go.BinOp.sub k a b)
                    (@Option.some Go.Value
                      (Go.Value.int k (Go.IntKind.wrap k (@HSub.hSub Int Int Int (@instHSub Int Int.instSub) a b)))))
                (And
                  (∀ {k : Go.IntKind} {a b : Int},
                    @Eq (Option Go.Value) (Lon.intOp Go.BinOp.mul k a b)
                      (@Option.some Go.Value
                        (Go.Value.int k (Go.IntKind.wrap k (@HMul.hMul Int Int Int (@instHMul Int Int.instMul) a b)))))
                  (∀ {k : Go.IntKind} {a b : Int},
                    @Eq (Option Go.Value) (Lon.intOp Go.BinOp.eql k a b)
                      (@Option.some Go.Value
                        (Go.Value.bool (@Decidable.decide (@Eq Int a b) (Int.instDecidableEq a b))))))))))))
    (And
      (And
        (And
          (And
            (And
              (And
                (∀ {k : Go.IntKind} {a b : Int},
                  @Eq (Option Go.Value) (Lon.intOp Go.BinOp.neq k a b)
                    (@Option.some Go.Value
                      (Go.Value.bool
                        (@Decidable.decide (@Ne Int a b) (@instDecidableNot (@Eq Int a b) (Int.instDecidableEq a b))))))
                (∀ {k : Go.IntKind} {a b : Int},
                  @Eq (Option Go.Value) (Lon.intOp Go.BinOp.lss k a b)
                    (@Option.some Go.Value
                      (Go.Value.bool (@Decidable.decide (@LT.lt Int Int.instLTInt a b) (Int.decLt a b))))))
              (And
                (∀ {k : Go.IntKind} {a b : Int},
                  @Eq (Option Go.Value) (Lon.intOp Go.BinOp.leq k a b)
                    (@Option.some Go.Value
                      (Go.Value.bool (@Decidable.decide (@LE.le Int Int.instLEInt a b) (Int.decLe a b)))))
                (And
                  (∀ {k : Go.IntKind} {a b : Int},
                    @Eq (Option Go.Value) (Lon.intOp Go.BinOp.gtr k a b)
                      (@Option.some Go.Value
                        (Go.Value.bool (@Decidable.decide (@GT.gt Int Int.instLTInt a b) (Int.decLt b a)))))
                  (∀ {k : Go.IntKind} {a b : Int},
                    @Eq (Option Go.Value) (Lon.intOp Go.BinOp.geq k a b)
                      (@Option.some Go.Value
                        (Go.Value.bool (@Decidable.decide (@GE.ge Int Int.instLEInt a b) (Int.decLe b a))))))))
            (And
              (And
                (∀ {P : Go.Program} {cf : Lon.CallF} {e : Lon.Env} {H : Lon.AHeap} {neq : Bool} {x y : Go.Operand},
                  @Eq (Option (Prod Go.Value Lon.AHeap)) (Lon.stepA P cf e H (Lon.AOp.beq neq x y))
                    (Lon.vBeq neq (Lon.ev e x) (Lon.ev e y) H))
                (And
                  (∀ {H : Lon.AHeap} {a b : Bool},
                    @Eq (Option (Prod Go.Value Lon.AHeap)) (Lon.vBeq Bool.false (Go.Value.bool a) (Go.Value.bool b) H)
                      (@Option.some (Prod Go.Value Lon.AHeap)
                        (@Prod.mk Go.Value Lon.AHeap
                          (Go.Value.bool (@BEq.beq Bool (@instBEqOfDecidableEq Bool instDecidableEqBool) a b)) H)))
                  (∀ {H : Lon.AHeap} {a b : Bool},
                    @Eq (Option (Prod Go.Value Lon.AHeap)) (Lon.vBeq Bool.true (Go.Value.bool a) (Go.Value.bool b) H)
                      (@Option.some (Prod Go.Value Lon.AHeap)
                        (@Prod.mk Go.Value Lon.AHeap
                          (Go.Value.bool (Bool.not (@BEq.beq Bool (@instBEqOfDecidableEq Bool instDecidableEqBool) a b)))
                          H)))))
              (And
                (∀ {P : Go.Program} {cf : Lon.CallF} {e : Lon.Env} {H : Lon.AHeap} {x : Go.Operand},
                  @Eq (Option (Prod Go.Value Lon.AHeap)) (Lon.stepA P cf e H (Lon.AOp.not x)) (Lon.vNot (Lon.ev e x) H))
                (And
                  (∀ {H : Lon.AHeap} {a : Bool},
                    @Eq (Option (Prod Go.Value Lon.AHeap)) (Lon.vNot (Go.Value.bool a) H)
                      (@Option.some (Prod Go.Value Lon.AHeap)
                        (@Prod.mk Go.Value Lon.AHeap (Go.Value.bool (Bool.not a)) H)))
                  (∀ {P : Go.Program} {cf : Lon.CallF} {e : Lon.Env} {H : Lon.AHeap} {k : Go.IntKind} {x : Go.Operand},
                    @Eq (Option (Prod Go.Value Lon.AHeap)) (Lon.stepA P cf e H (Lon.AOp.conv k x))
                      (Lon.vConv k (Lon.ev e x) H))))))
          (And
            (And
              (And
                (∀ {H : Lon.AHeap} {k k' : Go.IntKind} {n : Int},
                  @Eq (Option (Prod Go.Value Lon.AHeap)) (Lon.vConv k (Go.Value.int k' n) H)
                    (@Option.some (Prod Go.Value Lon.AHeap)
                      (@Prod.mk Go.Value Lon.AHeap (Go.Value.int k (Go.IntKind.wrap k n)) H)))
                (And
                  (∀ {P : Go.Program} {cf : Lon.CallF} {e : Lon.Env} {H : Lon.AHeap} {x : Go.Operand} {off : Nat},
                    @Eq (Option (Prod Go.Value Lon.AHeap)) (Lon.stepA P cf e H (Lon.AOp.faddr x off))
                      (Lon.vFaddr (Lon.ev e x) off H))
                  (∀ {H : Lon.AHeap} {i o off : Nat},
                    @Eq (Option (Prod Go.Value Lon.AHeap))
                      (Lon.vFaddr (Go.Value.pointer (@Option.some Go.Addr (Go.Addr.mk i o (@Option.none Nat)))) off H)
                      (@Option.some (Prod Go.Value Lon.AHeap)
                        (@Prod.mk Go.Value Lon.AHeap
                          (Go.Value.pointer
                            (@Option.some Go.Addr
                              (Go.Addr.mk i (@HAdd.hAdd Nat Nat Nat (@instHAdd Nat instAddNat) o off)
                                (@Option.none Nat))))
                          H)))))
              (And
                (∀ {P : Go.Program} {cf : Lon.CallF} {e : Lon.Env} {H : Lon.AHeap} {x i : Go.Operand} {sz : Nat},
                  @Eq (Option (Prod Go.Value Lon.AHeap)) (Lon.stepA P cf e H (Lon.AOp.iaddr x i sz))
                    (Lon.vIaddr (Lon.ev e x) (Lon.ev e i) sz H))
                (And
                  (∀ {H : Lon.AHeap} {b o n c sz : Nat} {k : Go.IntKind} {j : Int},
                    And (@LE.le Int Int.instLEInt (@OfNat.ofNat Int (nat_lit 0) (@instOfNat (nat_lit 0))) j)
                        (@LT.lt Int Int.instLTInt j (@Nat.cast Int instNatCastInt n)) →
                      @Eq (Option (Prod Go.Value Lon.AHeap))
                        (Lon.vIaddr (Go.Value.slice (@Option.some Go.Addr (Go.Addr.mk b o (@Option.none Nat))) n c)
                          (Go.Value.int k j) sz H)
                        (@Option.some (Prod Go.Value Lon.AHeap)
                          (@Prod.mk Go.Value Lon.AHeap
                            (Go.Value.pointer
                              (@Option.some Go.Addr
                                (Go.Addr.mk b
                                  (@HAdd.hAdd Nat Nat Nat (@instHAdd Nat instAddNat) o
                                    (@HMul.hMul Nat Nat Nat (@instHMul Nat instMulNat) (Int.toNat j) sz))
                                  (@Option.none Nat))))
                            H)))
                  (∀ {P : Go.Program} {cf : Lon.CallF} {e : Lon.Env} {H : Lon.AHeap} {x i : Go.Operand} {cnt sz : Nat},
                    @Eq (Option (Prod Go.Value Lon.AHeap)) (Lon.stepA P cf e H (Lon.AOp.aaddr x i cnt sz))
                      (Lon.vAaddr (Lon.ev e x) (Lon.ev e i) cnt sz H)))))
            (And
              (And
                (∀ {H : Lon.AHeap} {b o cnt sz : Nat} {k : Go.IntKind} {j : Int},
                  And (@LE.le Int Int.instLEInt (@OfNat.ofNat Int (nat_lit 0) (@instOfNat (nat_lit 0))) j)
                      (@LT.lt Int Int.instLTInt j (@Nat.cast Int instNatCastInt cnt)) →
                    @Eq (Option (Prod Go.Value Lon.AHeap))
                      (Lon.vAaddr (Go.Value.pointer (@Option.some Go.Addr (Go.Addr.mk b o (@Option.none Nat))))
                        (Go.Value.int k j) cnt sz H)
                      (@Option.some (Prod Go.Value Lon.AHeap)
                        (@Prod.mk Go.Value Lon.AHeap
                          (Go.Value.pointer
                            (@Option.some Go.Addr
                              (Go.Addr.mk b
                                (@HAdd.hAdd Nat Nat Nat (@instHAdd Nat instAddNat) o
                                  (@HMul.hMul Nat Nat Nat (@instHMul Nat instMulNat) (Int.toNat j) sz))
                                (@Option.none Nat))))
                          H)))
                (And
                  (∀ {P : Go.Program} {cf : Lon.CallF} {e : Lon.Env} {H : Lon.AHeap} {x : Go.Operand},
                    @Eq (Option (Prod Go.Value Lon.AHeap)) (Lon.stepA P cf e H (Lon.AOp.nilChk x))
                      (Lon.vNil (Lon.ev e x) H))
                  (∀ {H : Lon.AHeap} {i o : Nat},
                    @Eq (Option (Prod Go.Value Lon.AHeap))
                      (Lon.vNil (Go.Value.pointer (@Option.some Go.Addr (Go.Addr.mk i o (@Option.none Nat)))) H)
                      (@Option.some (Prod Go.Value Lon.AHeap)
                        (@Prod.mk Go.Value Lon.AHeap
                          (Go.Value.pointer (@Option.some Go.Addr (Go.Addr.mk i o (@Option.none Nat)))) H)))))
              (And
                (∀ {P : Go.Program} {cf : Lon.CallF} {e : Lon.Env} {H : Lon.AHeap} {str : Bool} {x : Go.Operand},
                  @Eq (Option (Prod Go.Value Lon.AHeap)) (Lon.stepA P cf e H (Lon.AOp.len str x))
                    (Lon.vLen str (Lon.ev e x) H))
                (And
                  (∀ {H : Lon.AHeap} {a : Option Go.Addr} {n c : Nat},
                    @Eq (Option (Prod Go.Value Lon.AHeap)) (Lon.vLen Bool.false (Go.Value.slice a n c) H)
                      (@Option.some (Prod Go.Value Lon.AHeap)
                        (@Prod.mk Go.Value Lon.AHeap (Go.Value.int Go.IntKind.i64 (@Nat.cast Int instNatCastInt n)) H)))
                  (∀ {H : Lon.AHeap} {b : ByteArray},
                    @Eq (Option (Prod Go.Value Lon.AHeap)) (Lon.vLen Bool.true (Go.Value.string b) H)
                      (@Option.some (Prod Go.Value Lon.AHeap)
                        (@Prod.mk Go.Value Lon.AHeap
                          (Go.Value.int Go.IntKind.i64 (@Nat.cast Int instNatCastInt (ByteArray.size b))) H))))))))
        (And
          (And
            (And
              (And
                (∀ {P : Go.Program} {cf : Lon.CallF} {e : Lon.Env} {H : Lon.AHeap} {x : Go.Operand} {k : Option Nat},
                  @Eq (Option (Prod Go.Value Lon.AHeap)) (Lon.stepA P cf e H (Lon.AOp.load x k))
                    (Lon.vLoad (Lon.ev e x) k H))
                (And
                  (∀ {H : Lon.AHeap} {i o : Nat} {k : Option Nat},
                    @Eq (Option (Prod Go.Value Lon.AHeap))
                      (Lon.vLoad (Go.Value.pointer (@Option.some Go.Addr (Go.Addr.mk i o (@Option.none Nat)))) k H)
                      (Lon.gotLoad (Lon.AHeap.get H i) o k H))
                  (∀ {H : Lon.AHeap} {cells : List Go.Value} {el : Go.TypeId} {st : Lon.St} {ver : Nat} {anc : List Nat}
                    {o : Nat},
                    @Eq Bool (Lon.St.mem st) Bool.true →
                      @Eq (Option (Prod Go.Value Lon.AHeap))
                        (Lon.gotLoad (@Option.some Lon.ABlk (Lon.ABlk.mk cells el st ver anc)) o (@Option.none Nat) H)
                        (@Option.map Go.Value (Prod Go.Value Lon.AHeap)
                          (fun (v : Go.Value) => @Prod.mk Go.Value Lon.AHeap v H)
                          (@GetElem?.getElem? (List Go.Value) Nat Go.Value
                            (fun (as : List Go.Value) (i : Nat) => @LT.lt Nat instLTNat i (@List.length Go.Value as))
                            (@List.instGetElem?NatLtLength Go.Value) cells o)))))
              (And
                (∀ {H : Lon.AHeap} {cells : List Go.Value} {el : Go.TypeId} {st : Lon.St} {ver : Nat} {anc : List Nat}
                  {o n : Nat},
                  @Eq Bool (Lon.St.mem st) Bool.true →
                    @LE.le Nat instLENat (@HAdd.hAdd Nat Nat Nat (@instHAdd Nat instAddNat) o n)
                        (@List.length Go.Value cells) →
                      @Eq (Option (Prod Go.Value Lon.AHeap))
                        (Lon.gotLoad (@Option.some Lon.ABlk (Lon.ABlk.mk cells el st ver anc)) o (@Option.some Nat n) H)
                        (@Option.some (Prod Go.Value Lon.AHeap)
                          (@Prod.mk Go.Value Lon.AHeap
                            (Go.Value.agg (@Array.mk Go.Value (@List.take Go.Value n (@List.drop Go.Value o cells)))) H)))
                (And (@Eq Bool (Lon.St.mem Lon.St.tip) Bool.true) (@Eq Bool (Lon.St.mem Lon.St.ro) Bool.true))))
            (And
              (And (@Eq Bool (Lon.St.mem Lon.St.ret) Bool.true)
                (And
                  (∀ {P : Go.Program} {cf : Lon.CallF} {e : Lon.Env} {H : Lon.AHeap} {cells : List Go.Value}
                    {el : Go.TypeId},
                    @Eq (Option (Prod Go.Value Lon.AHeap)) (Lon.stepA P cf e H (Lon.AOp.alloc cells el))
                      (@Option.some (Prod Go.Value Lon.AHeap)
                        (@Prod.mk Go.Value Lon.AHeap
                          (Go.Value.pointer
                            (@Option.some Go.Addr
                              (Go.Addr.mk (Lon.AHeap.n H) (@OfNat.ofNat Nat (nat_lit 0) (instOfNatNat (nat_lit 0)))
                                (@Option.none Nat))))
                          (Lon.AHeap.push H
                            (Lon.ABlk.mk cells el Lon.St.tip (@OfNat.ofNat Nat (nat_lit 0) (instOfNatNat (nat_lit 0)))
                              (@List.nil Nat))))))
                  (∀ {P : Go.Program} {cf : Lon.CallF} {e : Lon.Env} {H : Lon.AHeap} {x : Go.Operand} {el : Go.TypeId},
                    @Eq (Option (Prod Go.Value Lon.AHeap)) (Lon.stepA P cf e H (Lon.AOp.box x el))
                      (Lon.vBox (Lon.ev e x) el H))))
              (And
                (∀ {P : Go.Program} {cf : Lon.CallF} {e : Lon.Env} {H : Lon.AHeap} {x v : Go.Operand} {n : Nat},
                  @Eq (Option (Prod Go.Value Lon.AHeap)) (Lon.stepA P cf e H (Lon.AOp.store x v n))
                    (Lon.vStore (Lon.ev e x) (Lon.ev e v) n H))
                (And
                  (∀ {H : Lon.AHeap} {i o n : Nat} {v : Go.Value},
                    @Eq (Option (Prod Go.Value Lon.AHeap))
                      (Lon.vStore (Go.Value.pointer (@Option.some Go.Addr (Go.Addr.mk i o (@Option.none Nat)))) v n H)
                      (Lon.gotStore (Lon.AHeap.get H i) i o v n H))
                  (∀ {H : Lon.AHeap} {cells : List Go.Value} {el : Go.TypeId} {ver : Nat} {anc : List Nat} {i o n : Nat}
                    {v : Go.Value},
                    @Eq Nat (@List.length Go.Value (@Array.toList Go.Value (Go.Value.cells v))) n →
                      @Eq Bool (@List.all Go.Value (@Array.toList Go.Value (Go.Value.cells v)) Lon.one) Bool.true →
                        @LE.le Nat instLENat (@HAdd.hAdd Nat Nat Nat (@instHAdd Nat instAddNat) o n)
                            (@List.length Go.Value cells) →
                          @Eq (Option (Prod Go.Value Lon.AHeap))
                            (Lon.gotStore (@Option.some Lon.ABlk (Lon.ABlk.mk cells el Lon.St.tip ver anc)) i o v n H)
                            (@Option.some (Prod Go.Value Lon.AHeap)
                              (@Prod.mk Go.Value Lon.AHeap (Go.Value.tuple (@Array.mk Go.Value (@List.nil Go.Value)))
                                (Lon.AHeap.upd (Lon.killAll H anc) i
                                  (Lon.ABlk.mk
                                    (@HAppend.hAppend (List Go.Value) (List Go.Value) (List Go.Value)
                                      (@instHAppendOfAppend (List Go.Value) (@List.instAppend Go.Value))
                                      (@HAppend.hAppend (List Go.Value) (List Go.Value) (List Go.Value)
                                        (@instHAppendOfAppend (List Go.Value) (@List.instAppend Go.Value))
                                        (@List.take Go.Value o cells) (@Array.toList Go.Value (Go.Value.cells v)))
                                      (@List.drop Go.Value (@HAdd.hAdd Nat Nat Nat (@instHAdd Nat instAddNat) o n) cells))
                                    el Lon.St.tip
                                    (@HAdd.hAdd Nat Nat Nat (@instHAdd Nat instAddNat) ver
                                      (@OfNat.ofNat Nat (nat_lit 1) (instOfNatNat (nat_lit 1))))
                                    (@List.nil Nat))))))))))
          (And
            (And
              (And
                (∀ {l : List Go.Value},
                  @Eq (List Go.Value) (@Array.toList Go.Value (Go.Value.cells (Go.Value.agg (@Array.mk Go.Value l)))) l)
                (And
                  (∀ {k : Go.IntKind} {n : Int},
                    @Eq (List Go.Value) (@Array.toList Go.Value (Go.Value.cells (Go.Value.int k n)))
                      (@List.cons Go.Value (Go.Value.int k n) (@List.nil Go.Value)))
                  (∀ {b : Bool},
                    @Eq (List Go.Value) (@Array.toList Go.Value (Go.Value.cells (Go.Value.bool b)))
                      (@List.cons Go.Value (Go.Value.bool b) (@List.nil Go.Value)))))
              (And
                (∀ {a : Option Go.Addr} {n c : Nat},
                  @Eq (List Go.Value) (@Array.toList Go.Value (Go.Value.cells (Go.Value.slice a n c)))
                    (@List.cons Go.Value (Go.Value.slice a n c) (@List.nil Go.Value)))
                (And
                  (∀ {a : Option Go.Addr},
                    @Eq (List Go.Value) (@Array.toList Go.Value (Go.Value.cells (Go.Value.pointer a)))
                      (@List.cons Go.Value (Go.Value.pointer a) (@List.nil Go.Value)))
                  (∀ {b : ByteArray},
                    @Eq (List Go.Value) (@Array.toList Go.Value (Go.Value.cells (Go.Value.string b)))
                      (@List.cons Go.Value (Go.Value.string b) (@List.nil Go.Value))))))
            (And
              (And
                (∀ {k : Go.FloatKind} {a b : Nat},
                  @Eq (List Go.Value) (@Array.toList Go.Value (Go.Value.cells (Go.Value.complex k a b)))
                    (@List.cons Go.Value (Go.Value.complex k a b) (@List.nil Go.Value)))
                (And
                  (∀ {f : Go.Fn} {a b : Array Go.Value},
                    @Eq (List Go.Value) (@Array.toList Go.Value (Go.Value.cells (Go.Value.func f a b)))
                      (@List.cons Go.Value (Go.Value.func f a b) (@List.nil Go.Value)))
                  (∀ {k : Go.IntKind} {n : Int}, @Eq Bool (Lon.one (Go.Value.int k n)) Bool.true)))
              (And (∀ {b : Bool}, @Eq Bool (Lon.one (Go.Value.bool b)) Bool.true)
                (And (∀ {a : Option Go.Addr} {n c : Nat}, @Eq Bool (Lon.one (Go.Value.slice a n c)) Bool.true)
                  (∀ {a : Option Go.Addr}, @Eq Bool (Lon.one (Go.Value.pointer a)) Bool.true)))))))
      (And
        (And
          (And
            (And
              (And (∀ {b : ByteArray}, @Eq Bool (Lon.one (Go.Value.string b)) Bool.true)
                (And (∀ {k : Go.FloatKind} {a b : Nat}, @Eq Bool (Lon.one (Go.Value.complex k a b)) Bool.true)
                  (∀ {f : Go.Fn} {a b : Array Go.Value}, @Eq Bool (Lon.one (Go.Value.func f a b)) Bool.true)))
              (And
                (∀ {H : Lon.AHeap} {b b' : Lon.ABlk},
                  @Eq Lon.AHeap (Lon.AHeap.upd (Lon.AHeap.push H b) (Lon.AHeap.n H) b') (Lon.AHeap.push H b'))
                (And
                  (∀ {H : Lon.AHeap} {b : Lon.ABlk},
                    @Eq (Option Lon.ABlk) (Lon.AHeap.get (Lon.AHeap.push H b) (Lon.AHeap.n H)) (@Option.some Lon.ABlk b))
                  (∀ {P : Go.Program} {cf : Lon.CallF} {e : Lon.Env} {H : Lon.AHeap} {z : List Go.Value}
                    {ps : List (Prod Nat (Prod Nat Go.Operand))},
                    @Eq (Option (Prod Go.Value Lon.AHeap)) (Lon.stepA P cf e H (Lon.AOp.build z ps))
                      (Lon.vBuild z (Lon.evParts e ps) H)))))
            (And
              (And
                (∀ {e : Lon.Env},
                  @Eq (List (Prod Nat (Prod Nat Go.Value))) (Lon.evParts e (@List.nil (Prod Nat (Prod Nat Go.Operand))))
                    (@List.nil (Prod Nat (Prod Nat Go.Value))))
                (And
                  (∀ {e : Lon.Env} {a b : Nat} {x : Go.Operand} {r : List (Prod Nat (Prod Nat Go.Operand))},
                    @Eq (List (Prod Nat (Prod Nat Go.Value)))
                      (Lon.evParts e
                        (@List.cons (Prod Nat (Prod Nat Go.Operand))
                          (@Prod.mk Nat (Prod Nat Go.Operand) a (@Prod.mk Nat Go.Operand b x)) r))
                      (@List.cons (Prod Nat (Prod Nat Go.Value))
                        (@Prod.mk Nat (Prod Nat Go.Value) a (@Prod.mk Nat Go.Value b (Lon.ev e x))) (Lon.evParts e r)))
                  (∀ {P : Go.Program} {cf : Lon.CallF} {e : Lon.Env} {H : Lon.AHeap} {el : Go.TypeId} {n sz : Nat}
                    {z : List Go.Value} {ps : List (Prod Nat (Prod Nat Go.Operand))},
                    @Eq (Option (Prod Go.Value Lon.AHeap)) (Lon.stepA P cf e H (Lon.AOp.bslice el n sz z ps))
                      (Lon.vBslice el n sz z (Lon.evParts e ps) H))))
              (And
                (∀ {P : Go.Program} {cf : Lon.CallF} {e : Lon.Env} {H : Lon.AHeap} {x y : Go.Operand} {el : Go.TypeId}
                  {sz bytes : Nat},
                  @Eq (Option (Prod Go.Value Lon.AHeap)) (Lon.stepA P cf e H (Lon.AOp.append x y el sz bytes))
                    (Lon.appendA H (Lon.ev e x) (Lon.ev e y) el sz bytes))
                (And
                  (∀ {P : Go.Program} {cf : Lon.CallF} {e : Lon.Env} {H : Lon.AHeap} {fn : Go.Fn} {a b : List Go.Operand},
                    @Eq (Option (Prod Go.Value Lon.AHeap)) (Lon.stepA P cf e H (Lon.AOp.mkfun fn a b))
                      (@Option.some (Prod Go.Value Lon.AHeap)
                        (@Prod.mk Go.Value Lon.AHeap
                          (Go.Value.func fn (@Array.mk Go.Value (@List.map Go.Operand Go.Value (Lon.ev e) a))
                            (@Array.mk Go.Value (@List.map Go.Operand Go.Value (Lon.ev e) b)))
                          H)))
                  (∀ {P : Go.Program} {cf : Lon.CallF} {e : Lon.Env} {H : Lon.AHeap} {t : Go.TypeId} {x : Go.Operand},
                    @Eq (Option (Prod Go.Value Lon.AHeap)) (Lon.stepA P cf e H (Lon.AOp.mkface t x))
                      (@Option.some (Prod Go.Value Lon.AHeap)
                        (@Prod.mk Go.Value Lon.AHeap (Go.Value.iface t (Lon.ev e x)) H)))))))
          (And
            (And
              (And
                (∀ {P : Go.Program} {cf : Lon.CallF} {e : Lon.Env} {H : Lon.AHeap} {kd : Nat} {neq : Bool}
                  {x : Go.Operand},
                  @Eq (Option (Prod Go.Value Lon.AHeap)) (Lon.stepA P cf e H (Lon.AOp.isNil kd neq x))
                    (Lon.vIsNil kd neq (Lon.ev e x) H))
                (And
                  (∀ {P : Go.Program} {cf : Lon.CallF} {e : Lon.Env} {H : Lon.AHeap} {x y : Go.Operand},
                    @Eq (Option (Prod Go.Value Lon.AHeap)) (Lon.stepA P cf e H (Lon.AOp.max2 x y))
                      (Lon.vMax (Lon.ev e x) (Lon.ev e y) H))
                  (∀ {H : Lon.AHeap} {k k' : Go.IntKind} {a b : Int},
                    @Eq (Option (Prod Go.Value Lon.AHeap)) (Lon.vMax (Go.Value.int k a) (Go.Value.int k' b) H)
                      (@Option.some (Prod Go.Value Lon.AHeap)
                        (@Prod.mk Go.Value Lon.AHeap
                          (Go.Value.int k (@ite Int (@GT.gt Int Int.instLTInt b a) (Int.decLt a b) b a)) H)))))
              (And
                (∀ {P : Go.Program} {cf : Lon.CallF} {e : Lon.Env} {H : Lon.AHeap} {x y : Go.Operand},
                  @Eq (Option (Prod Go.Value Lon.AHeap)) (Lon.stepA P cf e H (Lon.AOp.min2 x y))
                    (Lon.vMin (Lon.ev e x) (Lon.ev e y) H))
                (And
                  (∀ {H : Lon.AHeap} {k k' : Go.IntKind} {a b : Int},
                    @Eq (Option (Prod Go.Value Lon.AHeap)) (Lon.vMin (Go.Value.int k a) (Go.Value.int k' b) H)
                      (@Option.some (Prod Go.Value Lon.AHeap)
                        (@Prod.mk Go.Value Lon.AHeap
                          (Go.Value.int k (@ite Int (@LT.lt Int Int.instLTInt b a) (Int.decLt b a) b a)) H)))
                  (∀ {P : Go.Program} {cf : Lon.CallF} {e : Lon.Env} {H : Lon.AHeap} {x : Go.Operand} {agg : Bool}
                    {off len : Nat},
                    @Eq (Option (Prod Go.Value Lon.AHeap)) (Lon.stepA P cf e H (Lon.AOp.field x agg off len))
                      (Lon.vField (Lon.ev e x) agg off len H)))))
            (And
              (And
                (∀ {P : Go.Program} {cf : Lon.CallF} {e : Lon.Env} {H : Lon.AHeap} {x i : Go.Operand} {cnt sz : Nat}
                  {agg : Bool},
                  @Eq (Option (Prod Go.Value Lon.AHeap)) (Lon.stepA P cf e H (Lon.AOp.index x i cnt agg sz))
                    (Lon.vIndex (Lon.ev e x) (Lon.ev e i) cnt agg sz H))
                (And
                  (∀ {P : Go.Program} {cf : Lon.CallF} {e : Lon.Env} {H : Lon.AHeap} {x : Go.Operand},
                    @Eq (Option (Prod Go.Value Lon.AHeap)) (Lon.stepA P cf e H (Lon.AOp.slice0 x))
                      (Lon.vSlice0 (Lon.ev e x) H))
                  (∀ {H : Lon.AHeap} {i o n c : Nat},
                    @Eq (Option (Prod Go.Value Lon.AHeap))
                      (Lon.vSlice0 (Go.Value.slice (@Option.some Go.Addr (Go.Addr.mk i o (@Option.none Nat))) n c) H)
                      (@Option.some (Prod Go.Value Lon.AHeap)
                        (@Prod.mk Go.Value Lon.AHeap
                          (Go.Value.slice (@Option.some Go.Addr (Go.Addr.mk i o (@Option.none Nat)))
                            (@OfNat.ofNat Nat (nat_lit 0) (instOfNatNat (nat_lit 0)))
                            (@OfNat.ofNat Nat (nat_lit 0) (instOfNatNat (nat_lit 0))))
                          H)))))
              (And
                (∀ {H : Lon.AHeap},
                  @Eq (Option (Prod Go.Value Lon.AHeap))
                    (Lon.vSlice0
                      (Go.Value.slice (@Option.none Go.Addr) (@OfNat.ofNat Nat (nat_lit 0) (instOfNatNat (nat_lit 0)))
                        (@OfNat.ofNat Nat (nat_lit 0) (instOfNatNat (nat_lit 0))))
                      H)
                    (@Option.some (Prod Go.Value Lon.AHeap)
                      (@Prod.mk Go.Value Lon.AHeap
                        (Go.Value.slice (@Option.none Go.Addr) (@OfNat.ofNat Nat (nat_lit 0) (instOfNatNat (nat_lit 0)))
                          (@OfNat.ofNat Nat (nat_lit 0) (instOfNatNat (nat_lit 0))))
                        H)))
                (And
                  (∀ {P : Go.Program} {cf : Lon.CallF} {e : Lon.Env} {H : Lon.AHeap} {x : Go.Operand}
                    {lo hi : Option Go.Operand} {sz : Nat},
                    @Eq (Option (Prod Go.Value Lon.AHeap)) (Lon.stepA P cf e H (Lon.AOp.slice x lo hi sz))
                      (@Lon.vSlice P (Lon.ev e x) (@Option.map Go.Operand Go.Value (Lon.ev e) lo)
                        (@Option.map Go.Operand Go.Value (Lon.ev e) hi) sz H))
                  (∀ {H : Lon.AHeap}, @Eq Lon.AHeap (Lon.killAll H (@List.nil Nat)) H))))))
        (And
          (And
            (And
              (And
                (∀ {P : Go.Program} {cf : Lon.CallF} {e : Lon.Env} {H : Lon.AHeap} {f : Go.Operand}
                  {args : List Go.Operand},
                  @Eq (Option (Prod Go.Value Lon.AHeap)) (Lon.stepA P cf e H (Lon.AOp.call f args))
                    (Lon.vCall cf (Lon.ev e f) (@List.map Go.Operand Go.Value (Lon.ev e) args) H))
                (And
                  (∀ {cf : Lon.CallF} {H : Lon.AHeap} {g : Go.FuncId} {args : List Go.Value},
                    @Eq (Option (Prod Go.Value Lon.AHeap))
                      (Lon.vCall cf
                        (Go.Value.func (Go.Fn.func g) (@Array.mk Go.Value (@List.nil Go.Value))
                          (@Array.mk Go.Value (@List.nil Go.Value)))
                        args H)
                      (cf g args H))
                  (∀ {e : Lon.Env}, @Eq Lon.Env (Lon.forget (@List.nil Nat) e) (@List.nil (Prod Nat Go.Value)))))
              (And
                (∀ {e : Lon.Env} {t : Nat} {ts : List Nat},
                  @Eq Lon.Env (Lon.forget (@List.cons Nat t ts) e)
                    (@List.cons (Prod Nat Go.Value) (@Prod.mk Nat Go.Value t (Lon.eget e t)) (Lon.forget ts e)))
                (And
                  (∀ (H : Lon.AHeap) (b : Lon.ABlk),
                    @Eq Nat (Lon.AHeap.n (Lon.AHeap.push H b))
                      (@HAdd.hAdd Nat Nat Nat (@instHAdd Nat instAddNat) (Lon.AHeap.n H)
                        (@OfNat.ofNat Nat (nat_lit 1) (instOfNatNat (nat_lit 1)))))
                  (∀ (H : Lon.AHeap) (i : Nat) (b : Lon.ABlk),
                    @Eq Nat (Lon.AHeap.n (Lon.AHeap.upd H i b)) (Lon.AHeap.n H)))))
            (And
              (And (@Eq Bool (Bool.not Bool.true) Bool.false)
                (And (@Eq Bool (Bool.not Bool.false) Bool.true)
                  (∀ (h : Decidable True), @Eq Bool (@Decidable.decide True h) Bool.true)))
              (And (∀ (h : Decidable False), @Eq Bool (@Decidable.decide False h) Bool.false)
                (And (∀ (n : Nat), @Eq Nat (Int.toNat (@Nat.cast Int instNatCastInt n)) n)
                  (∀ (a : Int), @LE.le Int Int.instLEInt a a)))))
          (And
            (And
              (And (∀ (n : Nat), @LE.le Nat instLENat n n)
                (And
                  (∀ (n : Nat),
                    @Eq Nat
                      (@HAdd.hAdd Nat Nat Nat (@instHAdd Nat instAddNat)
                        (@OfNat.ofNat Nat (nat_lit 0) (instOfNatNat (nat_lit 0))) n)
                      n)
                  (∀ (n : Nat),
                    @Eq Nat
                      (@HAdd.hAdd Nat Nat Nat (@instHAdd Nat instAddNat) n
                        (@OfNat.ofNat Nat (nat_lit 0) (instOfNatNat (nat_lit 0))))
                      n)))
              (And
                (∀ (n : Nat),
                  @Eq Nat
                    (@HMul.hMul Nat Nat Nat (@instHMul Nat instMulNat)
                      (@OfNat.ofNat Nat (nat_lit 0) (instOfNatNat (nat_lit 0))) n)
                    (@OfNat.ofNat Nat (nat_lit 0) (instOfNatNat (nat_lit 0))))
                (And
                  (∀ (n : Nat),
                    @Eq Nat
                      (@HMul.hMul Nat Nat Nat (@instHMul Nat instMulNat) n
                        (@OfNat.ofNat Nat (nat_lit 1) (instOfNatNat (nat_lit 1))))
                      n)
                  (∀ (n : Nat),
                    @Eq Nat
                      (@HMul.hMul Nat Nat Nat (@instHMul Nat instMulNat) n
                        (@OfNat.ofNat Nat (nat_lit 0) (instOfNatNat (nat_lit 0))))
                      (@OfNat.ofNat Nat (nat_lit 0) (instOfNatNat (nat_lit 0)))))))
            (And
              (And (∀ (p : Prop), @Eq Prop (And p p) p)
                (And (∀ (p : Prop), @Eq Prop (And p True) p) (∀ (p : Prop), @Eq Prop (And True p) p)))
              (And (∀ (b : Bool), @Eq Bool (Bool.and b b) b)
                (And (∀ (b : Bool), @Eq Bool (Bool.and b Bool.true) b)
                  (∀ (b : Bool), @Eq Bool (Bool.and Bool.true b) b)))))))) :=
  (And.intro (And.intro (And.intro (And.intro (And.intro (And.intro (And.intro @w_draw @dr_cons) (And.intro @dr_some (And.intro @dr_none @dr_go))) (And.intro (And.intro @still_no (And.intro @still_yes @next_no)) (And.intro @next_yes (And.intro @last_cons @last_nil)))) (And.intro (And.intro (And.intro @calm_no (And.intro @calm_nil @calm_cons)) (And.intro @calmB_some (And.intro @dr_nil @dr_end))) (And.intro (And.intro @still_nil (And.intro @still_cons @stillB_some)) (And.intro @stamp_some (And.intro @stampV_ptr @stampV_tuple))))) (And.intro (And.intro (And.intro (And.intro @still_here (And.intro @still_here0 @w_out)) (And.intro @w_gives (And.intro @fin_ret @fin_normal))) (And.intro (And.intro @ress_nil (And.intro @ress_tmp @pack_one)) (And.intro @pack_nil (And.intro @pack_two @entry_nil)))) (And.intro (And.intro (And.intro @entry_one (And.intro @entry_two @entry_three)) (And.intro @entry_four (And.intro @eq_skip @eq_exit))) (And.intro (And.intro @eq_ret (And.intro @w_rows @w_done)) (And.intro @w_seq (And.intro @w_normal @w_ret)))))) (And.intro (And.intro (And.intro (And.intro (And.intro @w_exit (And.intro @w_cond @w_true)) (And.intro @w_false (And.intro @eq_block @block_normal))) (And.intro (And.intro @block_ret (And.intro @block_exit @rows_nil)) (And.intro @rows_cons (And.intro @on_some @on_none)))) (And.intro (And.intro (And.intro @row_plain (And.intro @row_guard @guard_tt)) (And.intro @guard_ff (And.intro @guard_tf @guard_ft))) (And.intro (And.intro @guard_no (And.intro @ev_tmp @ev_int)) (And.intro @ev_bool (And.intro @ev_string @ev_slice))))) (And.intro (And.intro (And.intro (And.intro @ev_pointer (And.intro @ev_map @ev_float)) (And.intro @ev_complex (And.intro @ev_nilIface @ev_nilFunc))) (And.intro (And.intro @ev_func (And.intro @eget_cons @eget_nil)) (And.intro @st_mv (And.intro @st_pick @v_pick_t)))) (And.intro (And.intro (And.intro @v_pick_f (And.intro @st_ext @v_ext0)) (And.intro @v_ext1 (And.intro @v_ext2 @v_ext3))) (And.intro (And.intro @st_int (And.intro @v_int @int_add)) (And.intro @int_sub (And.intro @int_mul @int_eql))))))) (And.intro (And.intro (And.intro (And.intro (And.intro (And.intro @int_neq @int_lss) (And.intro @int_leq (And.intro @int_gtr @int_geq))) (And.intro (And.intro @st_beq (And.intro @v_beq @v_bne)) (And.intro @st_not (And.intro @v_not @st_conv)))) (And.intro (And.intro (And.intro @v_conv (And.intro @st_faddr @v_faddr)) (And.intro @st_iaddr (And.intro @v_iaddr @st_aaddr))) (And.intro (And.intro @v_aaddr (And.intro @st_nilChk @v_nil)) (And.intro @st_len (And.intro @v_len @v_lenS))))) (And.intro (And.intro (And.intro (And.intro @st_load (And.intro @v_load @got_one)) (And.intro @got_row (And.intro @mem_tip @mem_ro))) (And.intro (And.intro @mem_ret (And.intro @st_alloc @st_box)) (And.intro @st_store (And.intro @v_store @got_store)))) (And.intro (And.intro (And.intro @cells_agg (And.intro @cells_int @cells_bool)) (And.intro @cells_slice (And.intro @cells_pointer @cells_string))) (And.intro (And.intro @cells_complex (And.intro @cells_func @one_int)) (And.intro @one_bool (And.intro @one_slice @one_pointer)))))) (And.intro (And.intro (And.intro (And.intro (And.intro @one_string (And.intro @one_complex @one_func)) (And.intro @upd_push (And.intro @get_push_self @st_build))) (And.intro (And.intro @parts_nil (And.intro @parts_cons @st_bslice)) (And.intro @st_append (And.intro @st_mkfun @st_mkface)))) (And.intro (And.intro (And.intro @st_isNil (And.intro @st_max @v_max)) (And.intro @st_min (And.intro @v_min @st_field))) (And.intro (And.intro @st_index (And.intro @st_slice0 @v_slice0)) (And.intro @v_slice0n (And.intro @st_slice @kill_nil))))) (And.intro (And.intro (And.intro (And.intro @st_call (And.intro @v_call @forget_nil)) (And.intro @forget_cons (And.intro @AHeap.n_push @AHeap.n_upd))) (And.intro (And.intro @Bool.not_true (And.intro @Bool.not_false @decide_true)) (And.intro @decide_false (And.intro @Int.toNat_natCast @Int.le_refl)))) (And.intro (And.intro (And.intro @Nat.le_refl (And.intro @Nat.zero_add @Nat.add_zero)) (And.intro @Nat.zero_mul (And.intro @Nat.mul_one @Nat.mul_zero))) (And.intro (And.intro @and_self (And.intro @and_true @true_and)) (And.intro @Bool.and_self (And.intro @Bool.and_true @Bool.true_and))))))))
end Lon
