/- Contracts of this program's functions, and their proofs, printed by a program of the prover's own (see the claim's other texts for what the words mean). -/
import Derived.Test.YtbkoiplcjankoaaGreatL17PlaysC1
set_option linter.unusedVariables false
set_option linter.unusedSimpArgs false
set_option maxRecDepth 100000
namespace Go.Proofs
open Go.Sx
set_option maxHeartbeats 4000000 in
theorem Hy (n d:Int):jK n d (fun za zh zv zu zp=>QB Tryz.prog 83 none 2000 none (Qk Tryz.f92) (.reg [.sem [.nw 0], .sem [.nw 1], .sem [.nw 2], .sem [.nw 3],S0] (.reg [S0] (.reg [S0,S0,S0,S0,S0,S0, .sem [.rd 1],S0,S0] (.cond (.reg [S0,S0,S0] (.reg [S0,S0,S0,S0,S0,S0, .sem [.rd 1],S0,S0] (.cond (.reg [S0,S0,S0] (.reg [S0,S0,S0,S0,S0,S0, .sem [.rd 1],S0,S0] (.cond (.reg [S0,S0,S0] (.reg [S0,S0,S0,S0,S0,S0, .sem [.rd 1],S0,S0] (.cond (.reg [S0,S0,S0] (.reg [S0,S0,S0, .no, .no, .no, .no, .no,S0] (.condF (.reg [S0,S0] (.condT (.reg [.sem (QV 8 2), .sem (QV 4 3), .sem (Zq 8 2), .sem (Zq 4 3),S0] (.done))))))) (.reg [S0,S0] (.condF (.reg [S0,S0,S0, .sem [.rd 1], .callr [] Vh, .gen [] (Sx.one (ii ((QZ (Qb d 0):Nat):Int))),S0] (.reg [.sem [.nw 4]] (.reg [.sem [.nw 5]] (.reg [S0,S0,S0, .callw [4,0] [4,0] VE] (.reg [S0,S0,S0,S0,S0, .callw [5,1] [5,1] bH] (.reg [S0,S0,S0] (.reg [S0,S0] (.condT (.reg [S0,S0,S0,S0,S0,S0,S0,S0,S0, .callw [4,5] [4,5] XU,S0, .sem [.wr 2]] (.reg [S0,S0,S0] (.reg [S0,S0] (.condT (.reg [S0,S0,S0,S0,S0,S0,S0,S0,S0, .callw [4,5] [4,5] XU,S0, .sem [.wr 2]] (.reg [S0,S0,S0] (.reg [S0,S0] (.condT (.reg [S0,S0,S0,S0,S0,S0,S0,S0,S0, .callw [4,5] [4,5] XU,S0, .sem [.wr 2]] (.reg [S0,S0,S0] (.reg [S0,S0] (.condT (.reg [S0,S0,S0,S0,S0,S0,S0,S0,S0, .callw [4,5] [4,5] XU,S0, .sem [.wr 2]] (.reg [S0,S0,S0] (.reg [S0,S0] (.condT (.reg [S0,S0,S0,S0,S0,S0,S0,S0,S0, .callw [4,5] [4,5] XU,S0, .sem [.wr 2]] (.reg [S0,S0,S0] (.reg [S0,S0] (.condT (.reg [S0,S0,S0,S0,S0,S0,S0,S0,S0, .callw [4,5] [4,5] XU,S0, .sem [.wr 2]] (.reg [S0,S0,S0] (.reg [S0,S0] (.condT (.reg [S0,S0,S0,S0,S0,S0,S0,S0,S0, .callw [4,5] [4,5] XU,S0, .sem [.wr 2]] (.reg [S0,S0,S0] (.reg [S0,S0] (.condT (.reg [S0,S0,S0,S0,S0,S0,S0,S0,S0, .callw [4,5] [4,5] XU,S0, .sem [.wr 2]] (.reg [S0,S0,S0] (.reg [S0,S0] (.condF (.reg [S0,S0] (.reg [S0] (.condT (.reg [S0,S0] (.reg [S0,S0,S0, .sem [.rd 4],S0, .eq (XM),S0,S0,S0, .sem [.rd 4],S0, .gen [] (fun vs=>Sx.one (ii (ci (Qd vs 0) - ci (Qd vs 1))) vs), .eq (XX),S0,S0, .sem [.wr 3]] (.reg [S0,S0] (.reg [S0] (.condF (.reg [.sem (QV 8 2), .sem (QV 4 3), .sem (Zq 8 2), .sem (Zq 4 3),S0] (.done))))))))))))))))))))))))))))))))))))))))))))))))))))))) (.reg [S0,S0] (.condF (.reg [S0,S0,S0, .sem [.rd 1], .callr [] Vh, .gen [] (Sx.one (ii ((QZ (Qb d 1):Nat):Int))),S0] (.reg [.sem [.nw 4]] (.reg [.sem [.nw 5]] (.reg [S0,S0,S0, .callw [4,0] [4,0] VE] (.reg [S0,S0,S0,S0,S0, .callw [5,1] [5,1] dK] (.reg [S0,S0,S0] (.reg [S0,S0] (.condT (.reg [S0,S0,S0,S0,S0,S0,S0,S0,S0, .callw [4,5] [4,5] Js,S0, .sem [.wr 2]] (.reg [S0,S0,S0] (.reg [S0,S0] (.condT (.reg [S0,S0,S0,S0,S0,S0,S0,S0,S0, .callw [4,5] [4,5] Js,S0, .sem [.wr 2]] (.reg [S0,S0,S0] (.reg [S0,S0] (.condT (.reg [S0,S0,S0,S0,S0,S0,S0,S0,S0, .callw [4,5] [4,5] Js,S0, .sem [.wr 2]] (.reg [S0,S0,S0] (.reg [S0,S0] (.condT (.reg [S0,S0,S0,S0,S0,S0,S0,S0,S0, .callw [4,5] [4,5] Js,S0, .sem [.wr 2]] (.reg [S0,S0,S0] (.reg [S0,S0] (.condT (.reg [S0,S0,S0,S0,S0,S0,S0,S0,S0, .callw [4,5] [4,5] Js,S0, .sem [.wr 2]] (.reg [S0,S0,S0] (.reg [S0,S0] (.condT (.reg [S0,S0,S0,S0,S0,S0,S0,S0,S0, .callw [4,5] [4,5] Js,S0, .sem [.wr 2]] (.reg [S0,S0,S0] (.reg [S0,S0] (.condT (.reg [S0,S0,S0,S0,S0,S0,S0,S0,S0, .callw [4,5] [4,5] Js,S0, .sem [.wr 2]] (.reg [S0,S0,S0] (.reg [S0,S0] (.condF (.reg [S0,S0] (.reg [S0] (.condT (.reg [S0,S0] (.reg [S0,S0,S0, .sem [.rd 4],S0, .eq (XM),S0,S0,S0, .sem [.rd 4],S0, .gen [] (fun vs=>Sx.one (ii (ci (Qd vs 0) - ci (Qd vs 1))) vs), .eq (XX),S0,S0, .sem [.wr 3]] (.reg [S0,S0] (.reg [S0] (.condT (.reg [S0,S0] (.reg [S0,S0,S0, .sem [.rd 4],S0, .eq (XM),S0,S0,S0, .sem [.rd 4],S0, .gen [] (fun vs=>Sx.one (ii (ci (Qd vs 0) - ci (Qd vs 1))) vs), .eq (XX),S0,S0, .sem [.wr 3]] (.reg [S0,S0] (.reg [S0] (.condF (.reg [.sem (QV 8 2), .sem (QV 4 3), .sem (Zq 8 2), .sem (Zq 4 3),S0] (.done)))))))))))))))))))))))))))))))))))))))))))))))))))))))) (.reg [S0,S0] (.condF (.reg [S0,S0,S0, .sem [.rd 1], .callr [] Vh, .gen [] (Sx.one (ii ((QZ (Qb d 2):Nat):Int))),S0] (.reg [.sem [.nw 4]] (.reg [.sem [.nw 5]] (.reg [S0,S0,S0, .callw [4,0] [4,0] VE] (.reg [S0,S0,S0,S0,S0, .callw [5,1] [5,1] Qal] (.reg [S0,S0,S0] (.reg [S0,S0] (.condT (.reg [S0,S0,S0,S0,S0,S0,S0,S0,S0, .callw [4,5] [4,5] Ka,S0, .sem [.wr 2]] (.reg [S0,S0,S0] (.reg [S0,S0] (.condT (.reg [S0,S0,S0,S0,S0,S0,S0,S0,S0, .callw [4,5] [4,5] Ka,S0, .sem [.wr 2]] (.reg [S0,S0,S0] (.reg [S0,S0] (.condT (.reg [S0,S0,S0,S0,S0,S0,S0,S0,S0, .callw [4,5] [4,5] Ka,S0, .sem [.wr 2]] (.reg [S0,S0,S0] (.reg [S0,S0] (.condT (.reg [S0,S0,S0,S0,S0,S0,S0,S0,S0, .callw [4,5] [4,5] Ka,S0, .sem [.wr 2]] (.reg [S0,S0,S0] (.reg [S0,S0] (.condT (.reg [S0,S0,S0,S0,S0,S0,S0,S0,S0, .callw [4,5] [4,5] Ka,S0, .sem [.wr 2]] (.reg [S0,S0,S0] (.reg [S0,S0] (.condT (.reg [S0,S0,S0,S0,S0,S0,S0,S0,S0, .callw [4,5] [4,5] Ka,S0, .sem [.wr 2]] (.reg [S0,S0,S0] (.reg [S0,S0] (.condF (.reg [S0,S0] (.reg [S0] (.condT (.reg [S0,S0] (.reg [S0,S0,S0, .sem [.rd 4],S0, .eq (XM),S0,S0,S0, .sem [.rd 4],S0, .gen [] (fun vs=>Sx.one (ii (ci (Qd vs 0) - ci (Qd vs 1))) vs), .eq (XX),S0,S0, .sem [.wr 3]] (.reg [S0,S0] (.reg [S0] (.condT (.reg [S0,S0] (.reg [S0,S0,S0, .sem [.rd 4],S0, .eq (XM),S0,S0,S0, .sem [.rd 4],S0, .gen [] (fun vs=>Sx.one (ii (ci (Qd vs 0) - ci (Qd vs 1))) vs), .eq (XX),S0,S0, .sem [.wr 3]] (.reg [S0,S0] (.reg [S0] (.condT (.reg [S0,S0] (.reg [S0,S0,S0, .sem [.rd 4],S0, .eq (XM),S0,S0,S0, .sem [.rd 4],S0, .gen [] (fun vs=>Sx.one (ii (ci (Qd vs 0) - ci (Qd vs 1))) vs), .eq (XX),S0,S0, .sem [.wr 3]] (.reg [S0,S0] (.reg [S0] (.condF (.reg [.sem (QV 8 2), .sem (QV 4 3), .sem (Zq 8 2), .sem (Zq 4 3),S0] (.done))))))))))))))))))))))))))))))))))))))))))))))))))))))))) (.reg [S0,S0] (.condF (.reg [S0,S0,S0, .sem [.rd 1], .callr [] Vh, .gen [] (Sx.one (ii ((QZ (Qb d 3):Nat):Int))),S0] (.reg [.sem [.nw 4]] (.reg [.sem [.nw 5]] (.reg [S0,S0,S0, .callw [4,0] [4,0] VE] (.reg [S0,S0,S0,S0,S0, .callw [5,1] [5,1] Qaw] (.reg [S0,S0,S0] (.reg [S0,S0] (.condT (.reg [S0,S0,S0,S0,S0,S0,S0,S0,S0, .callw [4,5] [4,5] KZ,S0, .sem [.wr 2]] (.reg [S0,S0,S0] (.reg [S0,S0] (.condT (.reg [S0,S0,S0,S0,S0,S0,S0,S0,S0, .callw [4,5] [4,5] KZ,S0, .sem [.wr 2]] (.reg [S0,S0,S0] (.reg [S0,S0] (.condT (.reg [S0,S0,S0,S0,S0,S0,S0,S0,S0, .callw [4,5] [4,5] KZ,S0, .sem [.wr 2]] (.reg [S0,S0,S0] (.reg [S0,S0] (.condT (.reg [S0,S0,S0,S0,S0,S0,S0,S0,S0, .callw [4,5] [4,5] KZ,S0, .sem [.wr 2]] (.reg [S0,S0,S0] (.reg [S0,S0] (.condT (.reg [S0,S0,S0,S0,S0,S0,S0,S0,S0, .callw [4,5] [4,5] KZ,S0, .sem [.wr 2]] (.reg [S0,S0,S0] (.reg [S0,S0] (.condF (.reg [S0,S0] (.reg [S0] (.condT (.reg [S0,S0] (.reg [S0,S0,S0, .sem [.rd 4],S0, .eq (XM),S0,S0,S0, .sem [.rd 4],S0, .gen [] (fun vs=>Sx.one (ii (ci (Qd vs 0) - ci (Qd vs 1))) vs), .eq (XX),S0,S0, .sem [.wr 3]] (.reg [S0,S0] (.reg [S0] (.condT (.reg [S0,S0] (.reg [S0,S0,S0, .sem [.rd 4],S0, .eq (XM),S0,S0,S0, .sem [.rd 4],S0, .gen [] (fun vs=>Sx.one (ii (ci (Qd vs 0) - ci (Qd vs 1))) vs), .eq (XX),S0,S0, .sem [.wr 3]] (.reg [S0,S0] (.reg [S0] (.condT (.reg [S0,S0] (.reg [S0,S0,S0, .sem [.rd 4],S0, .eq (XM),S0,S0,S0, .sem [.rd 4],S0, .gen [] (fun vs=>Sx.one (ii (ci (Qd vs 0) - ci (Qd vs 1))) vs), .eq (XX),S0,S0, .sem [.wr 3]] (.reg [S0,S0] (.reg [S0] (.condT (.reg [S0,S0] (.reg [S0,S0,S0, .sem [.rd 4],S0, .eq (XM),S0,S0,S0, .sem [.rd 4],S0, .gen [] (fun vs=>Sx.one (ii (ci (Qd vs 0) - ci (Qd vs 1))) vs), .eq (XX),S0,S0, .sem [.wr 3]] (.reg [S0,S0] (.reg [S0] (.condF (.reg [.sem (QV 8 2), .sem (QV 4 3), .sem (Zq 8 2), .sem (Zq 4 3),S0] (.done)))))))))))))))))))))))))))))))))))))))))))))))))))))))))))
    (Q2 za zh) (Q8 Tryz.prog Tryz.f92 [.rd 2, .rd 2, .rd 2, .rd 2, .rd 2, .rd 2, .rd 2, .rd 2, .rd 3, .rd 3, .rd 3, .rd 3] [] (X:=Int×Int×Int) zv zu zp))=
    (∀b1:Nat,∀b2:Nat,∀b3:Nat,∀b4:Nat,true=true/\true=true/\true=true/\true=true/\Qj 1 b2 (true=true/\(((Qb d 3)==(0:Int))=true->true=true/\true=true/\true=true/\true=true/\Qj 1 b2 (true=true/\(((Qb d 2)==(0:Int))=true->true=true/\true=true/\true=true/\true=true/\Qj 1 b2 (true=true/\(((Qb d 1)==(0:Int))=true->true=true/\true=true/\true=true/\true=true/\Qj 1 b2 (true=true/\(((Qb d 0)==(0:Int))=true->false= !true/\false= !true/\false= !true/\false= !true/\false= !true/\(false=false)/\(true=true)/\Qj 8 b3 (Qj 4 b4 (Qj 8 b3 (Qj 4 b4 (Qj 8 b3 (Qj 4 b4 (Z4 n d (Value.tuple #[.agg #[uu 0,uu 0,uu 0,uu 0,uu 0,uu 0,uu 0,uu 0], .agg #[uu 0,uu 0,uu 0,uu 0],ii 3]))))))))/\(((Qb d 0)==(0:Int))=false->(false=false)/\Qj 1 b2 (Ys (Qb d 0) (fun _=>gE (ii (IntKind.i64.wrap (64 - ((J2 (Qb d 0).toNat:Nat):Int)))) (ii ((QZ (Qb d 0):Nat):Int)) (∀b5:Nat,∀b6:Nat,YE b5 b1 (Qb n 0) (Qb n 1) (Qb n 2) (Qb n 3) (Qb n 4) (Qb n 5) (Qb n 6) (Qb n 7) ((QZ (Qb d 0):Nat):Int) (fun x7=>Ze Tryz.prog 102 #[.slice (some ⟨b6,0,none⟩) 1 4, .slice (some ⟨b2,0,none⟩) 1 4,ii ((QZ (Qb d 0):Nat):Int)] [bk b6 #[uu 0,uu 0,uu 0,uu 0] 34,bk b2 (nC d) 35] Int (fun J=> .tuple #[]) (fun J=> [bk b6 #[uu J,uu 0,uu 0,uu 0] 34,bk b2 (nC d) 35]) (fun J=>J+18446744073709551616*((Qb d 0)/2^(64 - ((QZ (Qb d 0):Nat):Int)).toNat)=((Qb d 0))*2^((QZ (Qb d 0):Nat):Int).toNat/\W J) (fun x8=>(true=true)/\Xt b5 (#[uu x7.1,uu x7.2.1,uu x7.2.2.1,uu x7.2.2.2.1,uu x7.2.2.2.2.1,uu x7.2.2.2.2.2.1,uu x7.2.2.2.2.2.2.1,uu x7.2.2.2.2.2.2.2.1,uu x7.2.2.2.2.2.2.2.2]) 7 2 x7.2.2.2.2.2.2.2.1 x7.2.2.2.2.2.2.2.2 b6 x8 (fun x9=>Qj 1 b3 ((true=true)/\Xt b5 (#[uu x7.1,uu x7.2.1,uu x7.2.2.1,uu x7.2.2.2.1,uu x7.2.2.2.2.1,uu x7.2.2.2.2.2.1,uu x7.2.2.2.2.2.2.1,uu x9.2.1,uu x9.2.2]) 6 3 x7.2.2.2.2.2.2.1 x9.2.1 b6 x8 (fun x10=>Qj 1 b3 ((true=true)/\Xt b5 (#[uu x7.1,uu x7.2.1,uu x7.2.2.1,uu x7.2.2.2.1,uu x7.2.2.2.2.1,uu x7.2.2.2.2.2.1,uu x10.2.1,uu x10.2.2,uu x9.2.2]) 5 4 x7.2.2.2.2.2.1 x10.2.1 b6 x8 (fun x11=>Qj 1 b3 ((true=true)/\Xt b5 (#[uu x7.1,uu x7.2.1,uu x7.2.2.1,uu x7.2.2.2.1,uu x7.2.2.2.2.1,uu x11.2.1,uu x11.2.2,uu x10.2.2,uu x9.2.2]) 4 5 x7.2.2.2.2.1 x11.2.1 b6 x8 (fun x12=>Qj 1 b3 ((true=true)/\Xt b5 (#[uu x7.1,uu x7.2.1,uu x7.2.2.1,uu x7.2.2.2.1,uu x12.2.1,uu x12.2.2,uu x11.2.2,uu x10.2.2,uu x9.2.2]) 3 6 x7.2.2.2.1 x12.2.1 b6 x8 (fun x13=>Qj 1 b3 ((true=true)/\Xt b5 (#[uu x7.1,uu x7.2.1,uu x7.2.2.1,uu x13.2.1,uu x13.2.2,uu x12.2.2,uu x11.2.2,uu x10.2.2,uu x9.2.2]) 2 7 x7.2.2.1 x13.2.1 b6 x8 (fun x14=>Qj 1 b3 ((true=true)/\Xt b5 (#[uu x7.1,uu x7.2.1,uu x14.2.1,uu x14.2.2,uu x13.2.2,uu x12.2.2,uu x11.2.2,uu x10.2.2,uu x9.2.2]) 1 8 x7.2.1 x14.2.1 b6 x8 (fun x15=>Qj 1 b3 ((true=true)/\Xt b5 (#[uu x7.1,uu x15.2.1,uu x15.2.2,uu x14.2.2,uu x13.2.2,uu x12.2.2,uu x11.2.2,uu x10.2.2,uu x9.2.2]) 0 9 x7.1 x15.2.1 b6 x8 (fun x16=>Qj 1 b3 ((false=false)/\(true=true)/\Qj 1 b5 ((Qg Tryz.prog (Q0 .shr 33 (uu x16.2.1) (ii ((QZ (Qb d 0):Nat):Int))) (uu (Int.fdiv x16.2.1 (2^(min (Int.toNat ((QZ (Qb d 0):Nat):Int)) 64)))))/\Qj 1 b5 (gE (ii (IntKind.i64.wrap (64 - ((QZ (Qb d 0):Nat):Int)))) (ii (64 - ((QZ (Qb d 0):Nat):Int))) ((Qg Tryz.prog (Q0 .shl 33 (uu x16.2.2) (ii (64 - ((QZ (Qb d 0):Nat):Int)))) (uu (IntKind.u64.wrap (x16.2.2*2^(min (Int.toNat (64 - ((QZ (Qb d 0):Nat):Int))) 64)))))/\Qj 1 b4 ((false=false)/\Qj 8 b3 (Qj 4 b4 (Qj 8 b3 (Qj 4 b4 (Qj 8 b3 (Qj 4 b4 (Z4 n d (Value.tuple #[.agg #[uu x16.1,uu x15.1,uu x14.1,uu x13.1,uu x12.1,uu x11.1,uu x10.1,uu x9.1], .agg #[uu (IntKind.u64.wrap ((BitVec.ofInt 64 (Int.fdiv x16.2.1 (2^(min (Int.toNat ((QZ (Qb d 0):Nat):Int)) 64))) ||| BitVec.ofInt 64 (IntKind.u64.wrap (x16.2.2*2^(min (Int.toNat (64 - ((QZ (Qb d 0):Nat):Int))) 64))):BitVec 64).toNat:Int)),uu 0,uu 0,uu 0],ii 0])))))))))))))))))))))))))))))))))))/\(((Qb d 1)==(0:Int))=false->(false=false)/\Qj 1 b2 (Ys (Qb d 1) (fun _=>gE (ii (IntKind.i64.wrap (64 - ((J2 (Qb d 1).toNat:Nat):Int)))) (ii ((QZ (Qb d 1):Nat):Int)) (∀b17:Nat,∀b18:Nat,YE b17 b1 (Qb n 0) (Qb n 1) (Qb n 2) (Qb n 3) (Qb n 4) (Qb n 5) (Qb n 6) (Qb n 7) ((QZ (Qb d 1):Nat):Int) (fun x19=>Ze Tryz.prog 102 #[.slice (some ⟨b18,0,none⟩) 2 4, .slice (some ⟨b2,0,none⟩) 2 4,ii ((QZ (Qb d 1):Nat):Int)] [bk b18 #[uu 0,uu 0,uu 0,uu 0] 34,bk b2 (nC d) 35] (Int×Int) (fun J=> .tuple #[]) (fun J=> [bk b18 #[uu J.1,uu J.2,uu 0,uu 0] 34,bk b2 (nC d) 35]) (fun J=>J.1+18446744073709551616*J.2+340282366920938463463374607431768211456*((Qb d 1)/2^(64 - ((QZ (Qb d 1):Nat):Int)).toNat)=((Qb d 0)+18446744073709551616*(Qb d 1))*2^((QZ (Qb d 1):Nat):Int).toNat/\W J.1/\W J.2) (fun x20=>(true=true)/\XT b17 (#[uu x19.1,uu x19.2.1,uu x19.2.2.1,uu x19.2.2.2.1,uu x19.2.2.2.2.1,uu x19.2.2.2.2.2.1,uu x19.2.2.2.2.2.2.1,uu x19.2.2.2.2.2.2.2.1,uu x19.2.2.2.2.2.2.2.2]) 6 3 x19.2.2.2.2.2.2.1 x19.2.2.2.2.2.2.2.1 x19.2.2.2.2.2.2.2.2 b18 x20.1 x20.2 (fun x21=>Qj 1 b3 ((true=true)/\XT b17 (#[uu x19.1,uu x19.2.1,uu x19.2.2.1,uu x19.2.2.2.1,uu x19.2.2.2.2.1,uu x19.2.2.2.2.2.1,uu x21.2.1,uu x21.2.2.1,uu x21.2.2.2]) 5 4 x19.2.2.2.2.2.1 x21.2.1 x21.2.2.1 b18 x20.1 x20.2 (fun x22=>Qj 1 b3 ((true=true)/\XT b17 (#[uu x19.1,uu x19.2.1,uu x19.2.2.1,uu x19.2.2.2.1,uu x19.2.2.2.2.1,uu x22.2.1,uu x22.2.2.1,uu x22.2.2.2,uu x21.2.2.2]) 4 5 x19.2.2.2.2.1 x22.2.1 x22.2.2.1 b18 x20.1 x20.2 (fun x23=>Qj 1 b3 ((true=true)/\XT b17 (#[uu x19.1,uu x19.2.1,uu x19.2.2.1,uu x19.2.2.2.1,uu x23.2.1,uu x23.2.2.1,uu x23.2.2.2,uu x22.2.2.2,uu x21.2.2.2]) 3 6 x19.2.2.2.1 x23.2.1 x23.2.2.1 b18 x20.1 x20.2 (fun x24=>Qj 1 b3 ((true=true)/\XT b17 (#[uu x19.1,uu x19.2.1,uu x19.2.2.1,uu x24.2.1,uu x24.2.2.1,uu x24.2.2.2,uu x23.2.2.2,uu x22.2.2.2,uu x21.2.2.2]) 2 7 x19.2.2.1 x24.2.1 x24.2.2.1 b18 x20.1 x20.2 (fun x25=>Qj 1 b3 ((true=true)/\XT b17 (#[uu x19.1,uu x19.2.1,uu x25.2.1,uu x25.2.2.1,uu x25.2.2.2,uu x24.2.2.2,uu x23.2.2.2,uu x22.2.2.2,uu x21.2.2.2]) 1 8 x19.2.1 x25.2.1 x25.2.2.1 b18 x20.1 x20.2 (fun x26=>Qj 1 b3 ((true=true)/\XT b17 (#[uu x19.1,uu x26.2.1,uu x26.2.2.1,uu x26.2.2.2,uu x25.2.2.2,uu x24.2.2.2,uu x23.2.2.2,uu x22.2.2.2,uu x21.2.2.2]) 0 9 x19.1 x26.2.1 x26.2.2.1 b18 x20.1 x20.2 (fun x27=>Qj 1 b3 ((false=false)/\(true=true)/\Qj 1 b17 ((Qg Tryz.prog (Q0 .shr 33 (uu x27.2.1) (ii ((QZ (Qb d 1):Nat):Int))) (uu (Int.fdiv x27.2.1 (2^(min (Int.toNat ((QZ (Qb d 1):Nat):Int)) 64)))))/\Qj 1 b17 (gE (ii (IntKind.i64.wrap (64 - ((QZ (Qb d 1):Nat):Int)))) (ii (64 - ((QZ (Qb d 1):Nat):Int))) ((Qg Tryz.prog (Q0 .shl 33 (uu x27.2.2.1) (ii (64 - ((QZ (Qb d 1):Nat):Int)))) (uu (IntKind.u64.wrap (x27.2.2.1*2^(min (Int.toNat (64 - ((QZ (Qb d 1):Nat):Int))) 64)))))/\Qj 1 b4 ((true=true)/\Qj 1 b17 ((Qg Tryz.prog (Q0 .shr 33 (uu x27.2.2.1) (ii ((QZ (Qb d 1):Nat):Int))) (uu (Int.fdiv x27.2.2.1 (2^(min (Int.toNat ((QZ (Qb d 1):Nat):Int)) 64)))))/\Qj 1 b17 (gE (ii (IntKind.i64.wrap (64 - ((QZ (Qb d 1):Nat):Int)))) (ii (64 - ((QZ (Qb d 1):Nat):Int))) ((Qg Tryz.prog (Q0 .shl 33 (uu x27.2.2.2) (ii (64 - ((QZ (Qb d 1):Nat):Int)))) (uu (IntKind.u64.wrap (x27.2.2.2*2^(min (Int.toNat (64 - ((QZ (Qb d 1):Nat):Int))) 64)))))/\Qj 1 b4 ((false=false)/\Qj 8 b3 (Qj 4 b4 (Qj 8 b3 (Qj 4 b4 (Qj 8 b3 (Qj 4 b4 (Z4 n d (Value.tuple #[.agg #[uu x27.1,uu x26.1,uu x25.1,uu x24.1,uu x23.1,uu x22.1,uu x21.1,uu 0], .agg #[uu (IntKind.u64.wrap ((BitVec.ofInt 64 (Int.fdiv x27.2.1 (2^(min (Int.toNat ((QZ (Qb d 1):Nat):Int)) 64))) ||| BitVec.ofInt 64 (IntKind.u64.wrap (x27.2.2.1*2^(min (Int.toNat (64 - ((QZ (Qb d 1):Nat):Int))) 64))):BitVec 64).toNat:Int)),uu (IntKind.u64.wrap ((BitVec.ofInt 64 (Int.fdiv x27.2.2.1 (2^(min (Int.toNat ((QZ (Qb d 1):Nat):Int)) 64))) ||| BitVec.ofInt 64 (IntKind.u64.wrap (x27.2.2.2*2^(min (Int.toNat (64 - ((QZ (Qb d 1):Nat):Int))) 64))):BitVec 64).toNat:Int)),uu 0,uu 0],ii 0])))))))))))))))))))))))))))))))))))))/\(((Qb d 2)==(0:Int))=false->(false=false)/\Qj 1 b2 (Ys (Qb d 2) (fun _=>gE (ii (IntKind.i64.wrap (64 - ((J2 (Qb d 2).toNat:Nat):Int)))) (ii ((QZ (Qb d 2):Nat):Int)) (∀b28:Nat,∀b29:Nat,YE b28 b1 (Qb n 0) (Qb n 1) (Qb n 2) (Qb n 3) (Qb n 4) (Qb n 5) (Qb n 6) (Qb n 7) ((QZ (Qb d 2):Nat):Int) (fun x30=>Ze Tryz.prog 102 #[.slice (some ⟨b29,0,none⟩) 3 4, .slice (some ⟨b2,0,none⟩) 3 4,ii ((QZ (Qb d 2):Nat):Int)] [bk b29 #[uu 0,uu 0,uu 0,uu 0] 34,bk b2 (nC d) 35] (Int×Int×Int) (fun J=> .tuple #[]) (fun J=> [bk b29 #[uu J.1,uu J.2.1,uu J.2.2,uu 0] 34,bk b2 (nC d) 35]) (fun J=>J.1+18446744073709551616*J.2.1+340282366920938463463374607431768211456*J.2.2+6277101735386680763835789423207666416102355444464034512896*((Qb d 2)/2^(64 - ((QZ (Qb d 2):Nat):Int)).toNat)=((Qb d 0)+18446744073709551616*(Qb d 1)+340282366920938463463374607431768211456*(Qb d 2))*2^((QZ (Qb d 2):Nat):Int).toNat/\W J.1/\W J.2.1/\W J.2.2) (fun x31=>(true=true)/\Jo b28 (#[uu x30.1,uu x30.2.1,uu x30.2.2.1,uu x30.2.2.2.1,uu x30.2.2.2.2.1,uu x30.2.2.2.2.2.1,uu x30.2.2.2.2.2.2.1,uu x30.2.2.2.2.2.2.2.1,uu x30.2.2.2.2.2.2.2.2]) 5 4 x30.2.2.2.2.2.1 x30.2.2.2.2.2.2.1 x30.2.2.2.2.2.2.2.1 x30.2.2.2.2.2.2.2.2 b29 x31.1 x31.2.1 x31.2.2 (fun x32=>Qj 1 b3 ((true=true)/\Jo b28 (#[uu x30.1,uu x30.2.1,uu x30.2.2.1,uu x30.2.2.2.1,uu x30.2.2.2.2.1,uu x32.2.1,uu x32.2.2.1,uu x32.2.2.2.1,uu x32.2.2.2.2]) 4 5 x30.2.2.2.2.1 x32.2.1 x32.2.2.1 x32.2.2.2.1 b29 x31.1 x31.2.1 x31.2.2 (fun x33=>Qj 1 b3 ((true=true)/\Jo b28 (#[uu x30.1,uu x30.2.1,uu x30.2.2.1,uu x30.2.2.2.1,uu x33.2.1,uu x33.2.2.1,uu x33.2.2.2.1,uu x33.2.2.2.2,uu x32.2.2.2.2]) 3 6 x30.2.2.2.1 x33.2.1 x33.2.2.1 x33.2.2.2.1 b29 x31.1 x31.2.1 x31.2.2 (fun x34=>Qj 1 b3 ((true=true)/\Jo b28 (#[uu x30.1,uu x30.2.1,uu x30.2.2.1,uu x34.2.1,uu x34.2.2.1,uu x34.2.2.2.1,uu x34.2.2.2.2,uu x33.2.2.2.2,uu x32.2.2.2.2]) 2 7 x30.2.2.1 x34.2.1 x34.2.2.1 x34.2.2.2.1 b29 x31.1 x31.2.1 x31.2.2 (fun x35=>Qj 1 b3 ((true=true)/\Jo b28 (#[uu x30.1,uu x30.2.1,uu x35.2.1,uu x35.2.2.1,uu x35.2.2.2.1,uu x35.2.2.2.2,uu x34.2.2.2.2,uu x33.2.2.2.2,uu x32.2.2.2.2]) 1 8 x30.2.1 x35.2.1 x35.2.2.1 x35.2.2.2.1 b29 x31.1 x31.2.1 x31.2.2 (fun x36=>Qj 1 b3 ((true=true)/\Jo b28 (#[uu x30.1,uu x36.2.1,uu x36.2.2.1,uu x36.2.2.2.1,uu x36.2.2.2.2,uu x35.2.2.2.2,uu x34.2.2.2.2,uu x33.2.2.2.2,uu x32.2.2.2.2]) 0 9 x30.1 x36.2.1 x36.2.2.1 x36.2.2.2.1 b29 x31.1 x31.2.1 x31.2.2 (fun x37=>Qj 1 b3 ((false=false)/\(true=true)/\Qj 1 b28 ((Qg Tryz.prog (Q0 .shr 33 (uu x37.2.1) (ii ((QZ (Qb d 2):Nat):Int))) (uu (Int.fdiv x37.2.1 (2^(min (Int.toNat ((QZ (Qb d 2):Nat):Int)) 64)))))/\Qj 1 b28 (gE (ii (IntKind.i64.wrap (64 - ((QZ (Qb d 2):Nat):Int)))) (ii (64 - ((QZ (Qb d 2):Nat):Int))) ((Qg Tryz.prog (Q0 .shl 33 (uu x37.2.2.1) (ii (64 - ((QZ (Qb d 2):Nat):Int)))) (uu (IntKind.u64.wrap (x37.2.2.1*2^(min (Int.toNat (64 - ((QZ (Qb d 2):Nat):Int))) 64)))))/\Qj 1 b4 ((true=true)/\Qj 1 b28 ((Qg Tryz.prog (Q0 .shr 33 (uu x37.2.2.1) (ii ((QZ (Qb d 2):Nat):Int))) (uu (Int.fdiv x37.2.2.1 (2^(min (Int.toNat ((QZ (Qb d 2):Nat):Int)) 64)))))/\Qj 1 b28 (gE (ii (IntKind.i64.wrap (64 - ((QZ (Qb d 2):Nat):Int)))) (ii (64 - ((QZ (Qb d 2):Nat):Int))) ((Qg Tryz.prog (Q0 .shl 33 (uu x37.2.2.2.1) (ii (64 - ((QZ (Qb d 2):Nat):Int)))) (uu (IntKind.u64.wrap (x37.2.2.2.1*2^(min (Int.toNat (64 - ((QZ (Qb d 2):Nat):Int))) 64)))))/\Qj 1 b4 ((true=true)/\Qj 1 b28 ((Qg Tryz.prog (Q0 .shr 33 (uu x37.2.2.2.1) (ii ((QZ (Qb d 2):Nat):Int))) (uu (Int.fdiv x37.2.2.2.1 (2^(min (Int.toNat ((QZ (Qb d 2):Nat):Int)) 64)))))/\Qj 1 b28 (gE (ii (IntKind.i64.wrap (64 - ((QZ (Qb d 2):Nat):Int)))) (ii (64 - ((QZ (Qb d 2):Nat):Int))) ((Qg Tryz.prog (Q0 .shl 33 (uu x37.2.2.2.2) (ii (64 - ((QZ (Qb d 2):Nat):Int)))) (uu (IntKind.u64.wrap (x37.2.2.2.2*2^(min (Int.toNat (64 - ((QZ (Qb d 2):Nat):Int))) 64)))))/\Qj 1 b4 ((false=false)/\Qj 8 b3 (Qj 4 b4 (Qj 8 b3 (Qj 4 b4 (Qj 8 b3 (Qj 4 b4 (Z4 n d (Value.tuple #[.agg #[uu x37.1,uu x36.1,uu x35.1,uu x34.1,uu x33.1,uu x32.1,uu 0,uu 0], .agg #[uu (IntKind.u64.wrap ((BitVec.ofInt 64 (Int.fdiv x37.2.1 (2^(min (Int.toNat ((QZ (Qb d 2):Nat):Int)) 64))) ||| BitVec.ofInt 64 (IntKind.u64.wrap (x37.2.2.1*2^(min (Int.toNat (64 - ((QZ (Qb d 2):Nat):Int))) 64))):BitVec 64).toNat:Int)),uu (IntKind.u64.wrap ((BitVec.ofInt 64 (Int.fdiv x37.2.2.1 (2^(min (Int.toNat ((QZ (Qb d 2):Nat):Int)) 64))) ||| BitVec.ofInt 64 (IntKind.u64.wrap (x37.2.2.2.1*2^(min (Int.toNat (64 - ((QZ (Qb d 2):Nat):Int))) 64))):BitVec 64).toNat:Int)),uu (IntKind.u64.wrap ((BitVec.ofInt 64 (Int.fdiv x37.2.2.2.1 (2^(min (Int.toNat ((QZ (Qb d 2):Nat):Int)) 64))) ||| BitVec.ofInt 64 (IntKind.u64.wrap (x37.2.2.2.2*2^(min (Int.toNat (64 - ((QZ (Qb d 2):Nat):Int))) 64))):BitVec 64).toNat:Int)),uu 0],ii 0])))))))))))))))))))))))))))))))))))))))/\(((Qb d 3)==(0:Int))=false->(false=false)/\Qj 1 b2 (Ys (Qb d 3) (fun _=>gE (ii (IntKind.i64.wrap (64 - ((J2 (Qb d 3).toNat:Nat):Int)))) (ii ((QZ (Qb d 3):Nat):Int)) (∀b38:Nat,∀b39:Nat,YE b38 b1 (Qb n 0) (Qb n 1) (Qb n 2) (Qb n 3) (Qb n 4) (Qb n 5) (Qb n 6) (Qb n 7) ((QZ (Qb d 3):Nat):Int) (fun x40=>Ze Tryz.prog 102 #[.slice (some ⟨b39,0,none⟩) 4 4, .slice (some ⟨b2,0,none⟩) 4 4,ii ((QZ (Qb d 3):Nat):Int)] [bk b39 #[uu 0,uu 0,uu 0,uu 0] 34,bk b2 (nC d) 35] (Int×Int×Int×Int) (fun J=> .tuple #[]) (fun J=> [bk b39 #[uu J.1,uu J.2.1,uu J.2.2.1,uu J.2.2.2] 34,bk b2 (nC d) 35]) (fun J=>J.1+18446744073709551616*J.2.1+340282366920938463463374607431768211456*J.2.2.1+6277101735386680763835789423207666416102355444464034512896*J.2.2.2+115792089237316195423570985008687907853269984665640564039457584007913129639936*((Qb d 3)/2^(64 - ((QZ (Qb d 3):Nat):Int)).toNat)=((Qb d 0)+18446744073709551616*(Qb d 1)+340282366920938463463374607431768211456*(Qb d 2)+6277101735386680763835789423207666416102355444464034512896*(Qb d 3))*2^((QZ (Qb d 3):Nat):Int).toNat/\W J.1/\W J.2.1/\W J.2.2.1/\W J.2.2.2) (fun x41=>(true=true)/\J9 b38 (#[uu x40.1,uu x40.2.1,uu x40.2.2.1,uu x40.2.2.2.1,uu x40.2.2.2.2.1,uu x40.2.2.2.2.2.1,uu x40.2.2.2.2.2.2.1,uu x40.2.2.2.2.2.2.2.1,uu x40.2.2.2.2.2.2.2.2]) 4 5 x40.2.2.2.2.1 x40.2.2.2.2.2.1 x40.2.2.2.2.2.2.1 x40.2.2.2.2.2.2.2.1 x40.2.2.2.2.2.2.2.2 b39 x41.1 x41.2.1 x41.2.2.1 x41.2.2.2 (fun x42=>Qj 1 b3 ((true=true)/\J9 b38 (#[uu x40.1,uu x40.2.1,uu x40.2.2.1,uu x40.2.2.2.1,uu x42.2.1,uu x42.2.2.1,uu x42.2.2.2.1,uu x42.2.2.2.2.1,uu x42.2.2.2.2.2]) 3 6 x40.2.2.2.1 x42.2.1 x42.2.2.1 x42.2.2.2.1 x42.2.2.2.2.1 b39 x41.1 x41.2.1 x41.2.2.1 x41.2.2.2 (fun x43=>Qj 1 b3 ((true=true)/\J9 b38 (#[uu x40.1,uu x40.2.1,uu x40.2.2.1,uu x43.2.1,uu x43.2.2.1,uu x43.2.2.2.1,uu x43.2.2.2.2.1,uu x43.2.2.2.2.2,uu x42.2.2.2.2.2]) 2 7 x40.2.2.1 x43.2.1 x43.2.2.1 x43.2.2.2.1 x43.2.2.2.2.1 b39 x41.1 x41.2.1 x41.2.2.1 x41.2.2.2 (fun x44=>Qj 1 b3 ((true=true)/\J9 b38 (#[uu x40.1,uu x40.2.1,uu x44.2.1,uu x44.2.2.1,uu x44.2.2.2.1,uu x44.2.2.2.2.1,uu x44.2.2.2.2.2,uu x43.2.2.2.2.2,uu x42.2.2.2.2.2]) 1 8 x40.2.1 x44.2.1 x44.2.2.1 x44.2.2.2.1 x44.2.2.2.2.1 b39 x41.1 x41.2.1 x41.2.2.1 x41.2.2.2 (fun x45=>Qj 1 b3 ((true=true)/\J9 b38 (#[uu x40.1,uu x45.2.1,uu x45.2.2.1,uu x45.2.2.2.1,uu x45.2.2.2.2.1,uu x45.2.2.2.2.2,uu x44.2.2.2.2.2,uu x43.2.2.2.2.2,uu x42.2.2.2.2.2]) 0 9 x40.1 x45.2.1 x45.2.2.1 x45.2.2.2.1 x45.2.2.2.2.1 b39 x41.1 x41.2.1 x41.2.2.1 x41.2.2.2 (fun x46=>Qj 1 b3 ((false=false)/\(true=true)/\Qj 1 b38 ((Qg Tryz.prog (Q0 .shr 33 (uu x46.2.1) (ii ((QZ (Qb d 3):Nat):Int))) (uu (Int.fdiv x46.2.1 (2^(min (Int.toNat ((QZ (Qb d 3):Nat):Int)) 64)))))/\Qj 1 b38 (gE (ii (IntKind.i64.wrap (64 - ((QZ (Qb d 3):Nat):Int)))) (ii (64 - ((QZ (Qb d 3):Nat):Int))) ((Qg Tryz.prog (Q0 .shl 33 (uu x46.2.2.1) (ii (64 - ((QZ (Qb d 3):Nat):Int)))) (uu (IntKind.u64.wrap (x46.2.2.1*2^(min (Int.toNat (64 - ((QZ (Qb d 3):Nat):Int))) 64)))))/\Qj 1 b4 ((true=true)/\Qj 1 b38 ((Qg Tryz.prog (Q0 .shr 33 (uu x46.2.2.1) (ii ((QZ (Qb d 3):Nat):Int))) (uu (Int.fdiv x46.2.2.1 (2^(min (Int.toNat ((QZ (Qb d 3):Nat):Int)) 64)))))/\Qj 1 b38 (gE (ii (IntKind.i64.wrap (64 - ((QZ (Qb d 3):Nat):Int)))) (ii (64 - ((QZ (Qb d 3):Nat):Int))) ((Qg Tryz.prog (Q0 .shl 33 (uu x46.2.2.2.1) (ii (64 - ((QZ (Qb d 3):Nat):Int)))) (uu (IntKind.u64.wrap (x46.2.2.2.1*2^(min (Int.toNat (64 - ((QZ (Qb d 3):Nat):Int))) 64)))))/\Qj 1 b4 ((true=true)/\Qj 1 b38 ((Qg Tryz.prog (Q0 .shr 33 (uu x46.2.2.2.1) (ii ((QZ (Qb d 3):Nat):Int))) (uu (Int.fdiv x46.2.2.2.1 (2^(min (Int.toNat ((QZ (Qb d 3):Nat):Int)) 64)))))/\Qj 1 b38 (gE (ii (IntKind.i64.wrap (64 - ((QZ (Qb d 3):Nat):Int)))) (ii (64 - ((QZ (Qb d 3):Nat):Int))) ((Qg Tryz.prog (Q0 .shl 33 (uu x46.2.2.2.2.1) (ii (64 - ((QZ (Qb d 3):Nat):Int)))) (uu (IntKind.u64.wrap (x46.2.2.2.2.1*2^(min (Int.toNat (64 - ((QZ (Qb d 3):Nat):Int))) 64)))))/\Qj 1 b4 ((true=true)/\Qj 1 b38 ((Qg Tryz.prog (Q0 .shr 33 (uu x46.2.2.2.2.1) (ii ((QZ (Qb d 3):Nat):Int))) (uu (Int.fdiv x46.2.2.2.2.1 (2^(min (Int.toNat ((QZ (Qb d 3):Nat):Int)) 64)))))/\Qj 1 b38 (gE (ii (IntKind.i64.wrap (64 - ((QZ (Qb d 3):Nat):Int)))) (ii (64 - ((QZ (Qb d 3):Nat):Int))) ((Qg Tryz.prog (Q0 .shl 33 (uu x46.2.2.2.2.2) (ii (64 - ((QZ (Qb d 3):Nat):Int)))) (uu (IntKind.u64.wrap (x46.2.2.2.2.2*2^(min (Int.toNat (64 - ((QZ (Qb d 3):Nat):Int))) 64)))))/\Qj 1 b4 ((false=false)/\Qj 8 b3 (Qj 4 b4 (Qj 8 b3 (Qj 4 b4 (Qj 8 b3 (Qj 4 b4 (Z4 n d (Value.tuple #[.agg #[uu x46.1,uu x45.1,uu x44.1,uu x43.1,uu x42.1,uu 0,uu 0,uu 0], .agg #[uu (IntKind.u64.wrap ((BitVec.ofInt 64 (Int.fdiv x46.2.1 (2^(min (Int.toNat ((QZ (Qb d 3):Nat):Int)) 64))) ||| BitVec.ofInt 64 (IntKind.u64.wrap (x46.2.2.1*2^(min (Int.toNat (64 - ((QZ (Qb d 3):Nat):Int))) 64))):BitVec 64).toNat:Int)),uu (IntKind.u64.wrap ((BitVec.ofInt 64 (Int.fdiv x46.2.2.1 (2^(min (Int.toNat ((QZ (Qb d 3):Nat):Int)) 64))) ||| BitVec.ofInt 64 (IntKind.u64.wrap (x46.2.2.2.1*2^(min (Int.toNat (64 - ((QZ (Qb d 3):Nat):Int))) 64))):BitVec 64).toNat:Int)),uu (IntKind.u64.wrap ((BitVec.ofInt 64 (Int.fdiv x46.2.2.2.1 (2^(min (Int.toNat ((QZ (Qb d 3):Nat):Int)) 64))) ||| BitVec.ofInt 64 (IntKind.u64.wrap (x46.2.2.2.2.1*2^(min (Int.toNat (64 - ((QZ (Qb d 3):Nat):Int))) 64))):BitVec 64).toNat:Int)),uu (IntKind.u64.wrap ((BitVec.ofInt 64 (Int.fdiv x46.2.2.2.2.1 (2^(min (Int.toNat ((QZ (Qb d 3):Nat):Int)) 64))) ||| BitVec.ofInt 64 (IntKind.u64.wrap (x46.2.2.2.2.2*2^(min (Int.toNat (64 - ((QZ (Qb d 3):Nat):Int))) 64))):BitVec 64).toNat:Int))],ii 0]))))))))))))))))))))))))))))))))))))))))):=by kernel_rfl
set_option maxHeartbeats 4000000 in
theorem vJ (n d : Int) (r_n : R8 n) (r_d : R4 d) : jK n d (fun za zh zv zu zp => QC Tryz.prog 92 za zh (Int × Int × Int) zv zu zp) := by
  refine Qx (c:=Qk Tryz.f92) (n:=83) (fn:=Tryz.f92) QF Tryz.func92 (by kernel_rfl) (by kernel_rfl) (by kernel_rfl) 2000 _ [.rd 2, .rd 2, .rd 2, .rd 2, .rd 2, .rd 2, .rd 2, .rd 2, .rd 3, .rd 3, .rd 3, .rd 3] [] rfl rfl (Eq.mpr (Hy n d) ?_)
  intro b1
  intro b2
  intro b3
  intro b4
  refine ⟨rfl,rfl,rfl,rfl,Qa 1 _ ⟨rfl,⟨fun h1=> ?_,fun h1=> ?_⟩⟩⟩
  · refine ⟨rfl, rfl, rfl, rfl, Qa 1 _ ⟨rfl, ⟨fun h2 => ?_, fun h2 => ?_⟩⟩⟩
    · refine ⟨rfl,rfl,rfl,rfl,Qa 1 _ ⟨rfl,⟨fun h3=> ?_,fun h3=> ?_⟩⟩⟩
      · refine ⟨rfl,rfl,rfl,rfl,Qa 1 _ ⟨rfl,⟨fun h4=> ?_,fun h4=> ?_⟩⟩⟩
        · refine ⟨rfl,rfl,rfl,rfl,rfl,⟨rfl,⟨rfl,Qa 8 _ (Qa 4 _ (Qa 8 _ (Qa 4 _ (Qa 8 _ (Qa 4 _ ?_)))))⟩⟩⟩
          unfold Z4
          have hd:d=0:=by
            have e:=qi d
            rw [Qc r_d] at e
            simp only [beq_iff_eq] at *
            omega
          exact QeF (by rw [Qc r_d,hd];rfl) ⟨by decide,by decide⟩ QI QfR Q3
        refine ⟨rfl,Qa 1 _ (Vr (Qb d 0) (Ql (congrArg (Value.int .i64) (Qa1 (Qn _ _) ‹_›)) (fun b5=>fun b6=>VH b5 b1 (Qb n 0) (Qb n 1) (Qb n 2) (Qb n 3) (Qb n 4) (Qb n 5) (Qb n 6) (Qb n 7) ((QZ (Qb d 0):Nat):Int) (fun x7 h5=> ?_) (s0:=Jl _) (s1:=Z1 (Qn _ _) ‹_›) (wc0:=Qn _ _) (wc1:=Qn _ _) (wc2:=Qn _ _) (wc3:=Qn _ _) (wc4:=Qn _ _) (wc5:=Qn _ _) (wc6:=Qn _ _) (wc7:=Qn _ _) (wt:=yf (Jl _) (Z1 (Qn _ _) ‹_›) (Qn _ _) (Qn _ _) (Qn _ _) (Qn _ _) (Qn _ _) (Qn _ _) (Qn _ _) (Qn _ _)))))⟩
        obtain ⟨E,wx0,wx1,wx2,wx3,wx4,wx5,wx6,wx7,wx8⟩:=h5
        refine QH (Qd4 b6 b2 (Qb d 0) (Qb d 1) (Qb d 2) (Qb d 3) ((QZ (Qb d 0):Nat):Int) (Jl _) (Z1 (Qn _ _) ‹_›) (Qn _ _)) (QeW (Jl _) (Z1 (Qn _ _) ‹_›) (Qn _ _)) fun x8 h6=> ?_
        obtain ⟨F,wz0⟩:=h6
        obtain ⟨N1,N2,N3⟩:=QhS (Qn _ _) ‹_› wz0  F
        obtain ⟨p,q,hp',hq',hp,hq,hpq,hp2,ht,h0,e1,e2⟩:=VU (Qn d 0) ‹_›
        have n63:=Z1 (Qn d 0) ‹_›
        rw [e1,Qbk r_n] at E
        rw [←hp'] at N1
        have hVk:x8<18446744073709551616:=by unfold W at wz0;omega
        have V0:0<x8:=by omega
        have hlt7:=Qgq r_n hp hp2 wx0 wx1 wx2 wx3 wx4 wx5 wx6 wx7 wx8 E N2
        refine ⟨rfl,XS b5 (#[uu x7.1,uu x7.2.1,uu x7.2.2.1,uu x7.2.2.2.1,uu x7.2.2.2.2.1,uu x7.2.2.2.2.2.1,uu x7.2.2.2.2.2.2.1,uu x7.2.2.2.2.2.2.2.1,uu x7.2.2.2.2.2.2.2.2]) 7 2 x7.2.2.2.2.2.2.2.1 x7.2.2.2.2.2.2.2.2 b6 x8 (fun x9 h7=> ?_) (hsz:=Nat.le_of_ble_eq_true rfl) (hu0:=rfl) (hu1:=rfl) (wu0:=by assumption) (wu1:=by assumption) (wv0:=by assumption) (hlt:=hlt7) (hv:=N3) (wt:=KE (nn2 ‹_› ‹_›) hlt7 V0 hVk)⟩
        obtain ⟨h7,h7_0,h7_1⟩:=h7
        have A7:=h7.eq
        obtain ⟨hu6,hlt6⟩:=Gf (x:=x7.2.2.2.2.2.2.1) h7 wx6 h7_0 h7_1 hVk
        have wqh7:=h7.wq
        refine Qa 1 _ ⟨rfl,XS b5 (#[uu x7.1,uu x7.2.1,uu x7.2.2.1,uu x7.2.2.2.1,uu x7.2.2.2.2.1,uu x7.2.2.2.2.2.1,uu x7.2.2.2.2.2.2.1,uu x9.2.1,uu x9.2.2]) 6 3 x7.2.2.2.2.2.2.1 x9.2.1 b6 x8 (fun x10 h8=> ?_) (hsz:=Nat.le_of_ble_eq_true rfl) (hu0:=rfl) (hu1:=rfl) (wu0:=by assumption) (wu1:=by assumption) (wv0:=by assumption) (hlt:=hlt6) (hv:=N3) (wt:=KE (nn2 ‹_› ‹_›) hlt6 V0 hVk)⟩
        obtain ⟨h8,h8_0,h8_1⟩:=h8
        rw [hu6] at h8
        have A6:=Zo A7 h8
        obtain ⟨hu5,hlt5⟩:=Gf (x:=x7.2.2.2.2.2.1) h8 wx5 h8_0 h8_1 hVk
        have wqh8:=h8.wq
        refine Qa 1 _ ⟨rfl,XS b5 (#[uu x7.1,uu x7.2.1,uu x7.2.2.1,uu x7.2.2.2.1,uu x7.2.2.2.2.1,uu x7.2.2.2.2.2.1,uu x10.2.1,uu x10.2.2,uu x9.2.2]) 5 4 x7.2.2.2.2.2.1 x10.2.1 b6 x8 (fun x11 h9=> ?_) (hsz:=Nat.le_of_ble_eq_true rfl) (hu0:=rfl) (hu1:=rfl) (wu0:=by assumption) (wu1:=by assumption) (wv0:=by assumption) (hlt:=hlt5) (hv:=N3) (wt:=KE (nn2 ‹_› ‹_›) hlt5 V0 hVk)⟩
        obtain ⟨h9,h9_0,h9_1⟩:=h9
        rw [hu5] at h9
        have A5:=Zo A6 h9
        obtain ⟨hu4,hlt4⟩:=Gf (x:=x7.2.2.2.2.1) h9 wx4 h9_0 h9_1 hVk
        have wqh9:=h9.wq
        refine Qa 1 _ ⟨rfl,XS b5 (#[uu x7.1,uu x7.2.1,uu x7.2.2.1,uu x7.2.2.2.1,uu x7.2.2.2.2.1,uu x11.2.1,uu x11.2.2,uu x10.2.2,uu x9.2.2]) 4 5 x7.2.2.2.2.1 x11.2.1 b6 x8 (fun x12 h10=> ?_) (hsz:=Nat.le_of_ble_eq_true rfl) (hu0:=rfl) (hu1:=rfl) (wu0:=by assumption) (wu1:=by assumption) (wv0:=by assumption) (hlt:=hlt4) (hv:=N3) (wt:=KE (nn2 ‹_› ‹_›) hlt4 V0 hVk)⟩
        obtain ⟨h10,h10_0,h10_1⟩:=h10
        rw [hu4] at h10
        have A4:=Zo A5 h10
        obtain ⟨hu3,hlt3⟩:=Gf (x:=x7.2.2.2.1) h10 wx3 h10_0 h10_1 hVk
        have wqh10:=h10.wq
        refine Qa 1 _ ⟨rfl,XS b5 (#[uu x7.1,uu x7.2.1,uu x7.2.2.1,uu x7.2.2.2.1,uu x12.2.1,uu x12.2.2,uu x11.2.2,uu x10.2.2,uu x9.2.2]) 3 6 x7.2.2.2.1 x12.2.1 b6 x8 (fun x13 h11=> ?_) (hsz:=Nat.le_of_ble_eq_true rfl) (hu0:=rfl) (hu1:=rfl) (wu0:=by assumption) (wu1:=by assumption) (wv0:=by assumption) (hlt:=hlt3) (hv:=N3) (wt:=KE (nn2 ‹_› ‹_›) hlt3 V0 hVk)⟩
        obtain ⟨h11,h11_0,h11_1⟩:=h11
        rw [hu3] at h11
        have A3:=Zo A4 h11
        obtain ⟨hu2,hlt2⟩:=Gf (x:=x7.2.2.1) h11 wx2 h11_0 h11_1 hVk
        have wqh11:=h11.wq
        refine Qa 1 _ ⟨rfl,XS b5 (#[uu x7.1,uu x7.2.1,uu x7.2.2.1,uu x13.2.1,uu x13.2.2,uu x12.2.2,uu x11.2.2,uu x10.2.2,uu x9.2.2]) 2 7 x7.2.2.1 x13.2.1 b6 x8 (fun x14 h12=> ?_) (hsz:=Nat.le_of_ble_eq_true rfl) (hu0:=rfl) (hu1:=rfl) (wu0:=by assumption) (wu1:=by assumption) (wv0:=by assumption) (hlt:=hlt2) (hv:=N3) (wt:=KE (nn2 ‹_› ‹_›) hlt2 V0 hVk)⟩
        obtain ⟨h12,h12_0,h12_1⟩:=h12
        rw [hu2] at h12
        have A2:=Zo A3 h12
        obtain ⟨hu1,hlt1⟩:=Gf (x:=x7.2.1) h12 wx1 h12_0 h12_1 hVk
        have wqh12:=h12.wq
        refine Qa 1 _ ⟨rfl,XS b5 (#[uu x7.1,uu x7.2.1,uu x14.2.1,uu x14.2.2,uu x13.2.2,uu x12.2.2,uu x11.2.2,uu x10.2.2,uu x9.2.2]) 1 8 x7.2.1 x14.2.1 b6 x8 (fun x15 h13=> ?_) (hsz:=Nat.le_of_ble_eq_true rfl) (hu0:=rfl) (hu1:=rfl) (wu0:=by assumption) (wu1:=by assumption) (wv0:=by assumption) (hlt:=hlt1) (hv:=N3) (wt:=KE (nn2 ‹_› ‹_›) hlt1 V0 hVk)⟩
        obtain ⟨h13,h13_0,h13_1⟩:=h13
        rw [hu1] at h13
        have A1:=Zo A2 h13
        obtain ⟨hu0,hlt0⟩:=Gf (x:=x7.1) h13 wx0 h13_0 h13_1 hVk
        have wqh13:=h13.wq
        refine Qa 1 _ ⟨rfl,XS b5 (#[uu x7.1,uu x15.2.1,uu x15.2.2,uu x14.2.2,uu x13.2.2,uu x12.2.2,uu x11.2.2,uu x10.2.2,uu x9.2.2]) 0 9 x7.1 x15.2.1 b6 x8 (fun x16 h14=> ?_) (hsz:=Nat.le_of_ble_eq_true rfl) (hu0:=rfl) (hu1:=rfl) (wu0:=by assumption) (wu1:=by assumption) (wv0:=by assumption) (hlt:=hlt0) (hv:=N3) (wt:=KE (nn2 ‹_› ‹_›) hlt0 V0 hVk)⟩
        obtain ⟨h14,h14_0,h14_1⟩:=h14
        rw [hu0] at h14
        have A0:=Zo A1 h14
        have wqh14:=h14.wq
        refine Qa 1 _ ⟨rfl,⟨rfl,Qa 1 _ ⟨Kr (by omega),Qa 1 _ (Ql (congrArg (Value.int .i64) (Qz _ (by omega) (by omega))) ⟨Km (by omega),Qa 1 _ ⟨rfl,Qa 8 _ (Qa 4 _ (Qa 8 _ (Qa 4 _ (Qa 8 _ (Qa 4 _ ?_)))))⟩⟩)⟩⟩⟩
        unfold Z4
        have hD:Qb d 0=d:=by
          have e:=qi d
          rw [Qc r_d] at e
          simp only [beq_iff_eq,beq_eq_false_iff_ne] at *
          omega
        rw [hD] at N1
        have A:((x16.1+18446744073709551616*(x15.1+18446744073709551616*(x14.1+18446744073709551616*(x13.1+18446744073709551616*(x12.1+18446744073709551616*(x11.1+18446744073709551616*(x10.1+18446744073709551616*x9.1))))))))*(x8)+(x16.2.1+18446744073709551616*x16.2.2)=n*p:=by rw [←E];rw [A0];omega
        obtain ⟨G1,G2,G3⟩:=WV A N1 h14.r0 h14.r1 hp
        have G4:=Qh0 hp hq hpq hVk h14_0 h14_1 G2 h14.r1
        have c0:=Yw (x:=x16.2.1) (y:=x16.2.2) (s:=((QZ (Qb d 0):Nat):Int)) (Jl _) (Z1 (Qn _ _) ‹_›) h14_0 h14_1
        rw [e1,e2] at c0
        have cw0:=V7 (y:=x16.2.2) hp hq hpq h14_0
        have W0:W 0:=by unfold W;decide
        have Hq:Qe (.agg #[.int .u64 x16.1, .int .u64 x15.1, .int .u64 x14.1, .int .u64 x13.1, .int .u64 x12.1, .int .u64 x11.1, .int .u64 x10.1, .int .u64 x9.1])=n/d:=by rw [G1,Bq];omega
        have Hr:Qe (.agg #[.int .u64 (x16.2.1/p+x16.2.2*q%18446744073709551616), .int .u64 0, .int .u64 0, .int .u64 0])=n%d:=by rw [←G4,Hd];omega
        have Hv:=yA (show W x16.1 by first | assumption | exact W0) (show W x15.1 by first | assumption | exact W0) (show W x14.1 by first | assumption | exact W0) (show W x13.1 by first | assumption | exact W0) (show W x12.1 by first | assumption | exact W0) (show W x11.1 by first | assumption | exact W0) (show W x10.1 by first | assumption | exact W0) (show W x9.1 by first | assumption | exact W0)
        have Hw:=VS cw0 W0 W0 W0
        rw [Hq] at Hv
        rw [Hr] at Hw
        refine QeF (n:=n/d) (r:=n%d) (by rw [UK r_n,Qc r_d];unfold qg;rw [if_neg G3]) (Hq▸WQ (by first | assumption | exact W0) (by first | assumption | exact W0) (by first | assumption | exact W0) (by first | assumption | exact W0) (by first | assumption | exact W0) (by first | assumption | exact W0) (by first | assumption | exact W0) (by first | assumption | exact W0)) (Hr▸KY cw0 W0 W0 W0) Hv ?_
        rw [Hw,c0]
      refine ⟨rfl,Qa 1 _ (Vr (Qb d 1) (Ql (congrArg (Value.int .i64) (Qa1 (Qn _ _) ‹_›)) (fun b17=>fun b18=>VH b17 b1 (Qb n 0) (Qb n 1) (Qb n 2) (Qb n 3) (Qb n 4) (Qb n 5) (Qb n 6) (Qb n 7) ((QZ (Qb d 1):Nat):Int) (fun x19 h15=> ?_) (s0:=Jl _) (s1:=Z1 (Qn _ _) ‹_›) (wc0:=Qn _ _) (wc1:=Qn _ _) (wc2:=Qn _ _) (wc3:=Qn _ _) (wc4:=Qn _ _) (wc5:=Qn _ _) (wc6:=Qn _ _) (wc7:=Qn _ _) (wt:=yf (Jl _) (Z1 (Qn _ _) ‹_›) (Qn _ _) (Qn _ _) (Qn _ _) (Qn _ _) (Qn _ _) (Qn _ _) (Qn _ _) (Qn _ _)))))⟩
      obtain ⟨E,wx0,wx1,wx2,wx3,wx4,wx5,wx6,wx7,wx8⟩:=h15
      refine QH (QdM b18 b2 (Qb d 0) (Qb d 1) (Qb d 2) (Qb d 3) ((QZ (Qb d 1):Nat):Int) (Jl _) (Z1 (Qn _ _) ‹_›) (Qn _ _) (Qn _ _)) (QeQ (Jl _) (Z1 (Qn _ _) ‹_›) (Qn _ _) (Qn _ _)) fun x20 h16=> ?_
      obtain ⟨F,wz0,wz1⟩:=h16
      obtain ⟨N1,N2,N3⟩:=Qhx (Qn _ _) ‹_› wz0 wz1 (Qn _ _) F
      obtain ⟨p,q,hp',hq',hp,hq,hpq,hp2,ht,h0,e1,e2⟩:=VU (Qn d 1) ‹_›
      have n63:=Z1 (Qn d 1) ‹_›
      rw [e1,Qbk r_n] at E
      rw [←hp'] at N1
      have hVk:x20.1+18446744073709551616*x20.2<340282366920938463463374607431768211456:=by unfold W at wz0 wz1;omega
      have V0:0<x20.1+18446744073709551616*x20.2:=by omega
      have hlt6:=Qgj r_n hp hp2 wx0 wx1 wx2 wx3 wx4 wx5 wx6 wx7 wx8 E N2
      refine ⟨rfl,Ju b17 (#[uu x19.1,uu x19.2.1,uu x19.2.2.1,uu x19.2.2.2.1,uu x19.2.2.2.2.1,uu x19.2.2.2.2.2.1,uu x19.2.2.2.2.2.2.1,uu x19.2.2.2.2.2.2.2.1,uu x19.2.2.2.2.2.2.2.2]) 6 3 x19.2.2.2.2.2.2.1 x19.2.2.2.2.2.2.2.1 x19.2.2.2.2.2.2.2.2 b18 x20.1 x20.2 (fun x21 h17=> ?_) (hsz:=Nat.le_of_ble_eq_true rfl) (hu0:=rfl) (hu1:=rfl) (hu2:=rfl) (wu0:=by assumption) (wu1:=by assumption) (wu2:=by assumption) (wv0:=by assumption) (wv1:=by assumption) (hlt:=hlt6) (hv:=N3) (wt:=Yt (nn3 ‹_› ‹_› ‹_›) hlt6 V0 hVk)⟩
      obtain ⟨h17,h17_0,h17_1,h17_2⟩:=h17
      have A6:=h17.eq
      obtain ⟨hu5,hlt5⟩:=Dw (x:=x19.2.2.2.2.2.1) h17 wx5 h17_0 h17_1 h17_2 hVk
      have wqh17:=h17.wq
      refine Qa 1 _ ⟨rfl,Ju b17 (#[uu x19.1,uu x19.2.1,uu x19.2.2.1,uu x19.2.2.2.1,uu x19.2.2.2.2.1,uu x19.2.2.2.2.2.1,uu x21.2.1,uu x21.2.2.1,uu x21.2.2.2]) 5 4 x19.2.2.2.2.2.1 x21.2.1 x21.2.2.1 b18 x20.1 x20.2 (fun x22 h18=> ?_) (hsz:=Nat.le_of_ble_eq_true rfl) (hu0:=rfl) (hu1:=rfl) (hu2:=rfl) (wu0:=by assumption) (wu1:=by assumption) (wu2:=by assumption) (wv0:=by assumption) (wv1:=by assumption) (hlt:=hlt5) (hv:=N3) (wt:=Yt (nn3 ‹_› ‹_› ‹_›) hlt5 V0 hVk)⟩
      obtain ⟨h18,h18_0,h18_1,h18_2⟩:=h18
      rw [hu5] at h18
      have A5:=Zo A6 h18
      obtain ⟨hu4,hlt4⟩:=Dw (x:=x19.2.2.2.2.1) h18 wx4 h18_0 h18_1 h18_2 hVk
      have wqh18:=h18.wq
      refine Qa 1 _ ⟨rfl,Ju b17 (#[uu x19.1,uu x19.2.1,uu x19.2.2.1,uu x19.2.2.2.1,uu x19.2.2.2.2.1,uu x22.2.1,uu x22.2.2.1,uu x22.2.2.2,uu x21.2.2.2]) 4 5 x19.2.2.2.2.1 x22.2.1 x22.2.2.1 b18 x20.1 x20.2 (fun x23 h19=> ?_) (hsz:=Nat.le_of_ble_eq_true rfl) (hu0:=rfl) (hu1:=rfl) (hu2:=rfl) (wu0:=by assumption) (wu1:=by assumption) (wu2:=by assumption) (wv0:=by assumption) (wv1:=by assumption) (hlt:=hlt4) (hv:=N3) (wt:=Yt (nn3 ‹_› ‹_› ‹_›) hlt4 V0 hVk)⟩
      obtain ⟨h19,h19_0,h19_1,h19_2⟩:=h19
      rw [hu4] at h19
      have A4:=Zo A5 h19
      obtain ⟨hu3,hlt3⟩:=Dw (x:=x19.2.2.2.1) h19 wx3 h19_0 h19_1 h19_2 hVk
      have wqh19:=h19.wq
      refine Qa 1 _ ⟨rfl,Ju b17 (#[uu x19.1,uu x19.2.1,uu x19.2.2.1,uu x19.2.2.2.1,uu x23.2.1,uu x23.2.2.1,uu x23.2.2.2,uu x22.2.2.2,uu x21.2.2.2]) 3 6 x19.2.2.2.1 x23.2.1 x23.2.2.1 b18 x20.1 x20.2 (fun x24 h20=> ?_) (hsz:=Nat.le_of_ble_eq_true rfl) (hu0:=rfl) (hu1:=rfl) (hu2:=rfl) (wu0:=by assumption) (wu1:=by assumption) (wu2:=by assumption) (wv0:=by assumption) (wv1:=by assumption) (hlt:=hlt3) (hv:=N3) (wt:=Yt (nn3 ‹_› ‹_› ‹_›) hlt3 V0 hVk)⟩
      obtain ⟨h20,h20_0,h20_1,h20_2⟩:=h20
      rw [hu3] at h20
      have A3:=Zo A4 h20
      obtain ⟨hu2,hlt2⟩:=Dw (x:=x19.2.2.1) h20 wx2 h20_0 h20_1 h20_2 hVk
      have wqh20:=h20.wq
      refine Qa 1 _ ⟨rfl,Ju b17 (#[uu x19.1,uu x19.2.1,uu x19.2.2.1,uu x24.2.1,uu x24.2.2.1,uu x24.2.2.2,uu x23.2.2.2,uu x22.2.2.2,uu x21.2.2.2]) 2 7 x19.2.2.1 x24.2.1 x24.2.2.1 b18 x20.1 x20.2 (fun x25 h21=> ?_) (hsz:=Nat.le_of_ble_eq_true rfl) (hu0:=rfl) (hu1:=rfl) (hu2:=rfl) (wu0:=by assumption) (wu1:=by assumption) (wu2:=by assumption) (wv0:=by assumption) (wv1:=by assumption) (hlt:=hlt2) (hv:=N3) (wt:=Yt (nn3 ‹_› ‹_› ‹_›) hlt2 V0 hVk)⟩
      obtain ⟨h21,h21_0,h21_1,h21_2⟩:=h21
      rw [hu2] at h21
      have A2:=Zo A3 h21
      obtain ⟨hu1,hlt1⟩:=Dw (x:=x19.2.1) h21 wx1 h21_0 h21_1 h21_2 hVk
      have wqh21:=h21.wq
      refine Qa 1 _ ⟨rfl,Ju b17 (#[uu x19.1,uu x19.2.1,uu x25.2.1,uu x25.2.2.1,uu x25.2.2.2,uu x24.2.2.2,uu x23.2.2.2,uu x22.2.2.2,uu x21.2.2.2]) 1 8 x19.2.1 x25.2.1 x25.2.2.1 b18 x20.1 x20.2 (fun x26 h22=> ?_) (hsz:=Nat.le_of_ble_eq_true rfl) (hu0:=rfl) (hu1:=rfl) (hu2:=rfl) (wu0:=by assumption) (wu1:=by assumption) (wu2:=by assumption) (wv0:=by assumption) (wv1:=by assumption) (hlt:=hlt1) (hv:=N3) (wt:=Yt (nn3 ‹_› ‹_› ‹_›) hlt1 V0 hVk)⟩
      obtain ⟨h22,h22_0,h22_1,h22_2⟩:=h22
      rw [hu1] at h22
      have A1:=Zo A2 h22
      obtain ⟨hu0,hlt0⟩:=Dw (x:=x19.1) h22 wx0 h22_0 h22_1 h22_2 hVk
      have wqh22:=h22.wq
      refine Qa 1 _ ⟨rfl,Ju b17 (#[uu x19.1,uu x26.2.1,uu x26.2.2.1,uu x26.2.2.2,uu x25.2.2.2,uu x24.2.2.2,uu x23.2.2.2,uu x22.2.2.2,uu x21.2.2.2]) 0 9 x19.1 x26.2.1 x26.2.2.1 b18 x20.1 x20.2 (fun x27 h23=> ?_) (hsz:=Nat.le_of_ble_eq_true rfl) (hu0:=rfl) (hu1:=rfl) (hu2:=rfl) (wu0:=by assumption) (wu1:=by assumption) (wu2:=by assumption) (wv0:=by assumption) (wv1:=by assumption) (hlt:=hlt0) (hv:=N3) (wt:=Yt (nn3 ‹_› ‹_› ‹_›) hlt0 V0 hVk)⟩
      obtain ⟨h23,h23_0,h23_1,h23_2⟩:=h23
      rw [hu0] at h23
      have A0:=Zo A1 h23
      have wqh23:=h23.wq
      refine Qa 1 _ ⟨rfl,⟨rfl,Qa 1 _ ⟨Kr (by omega),Qa 1 _ (Ql (congrArg (Value.int .i64) (Qz _ (by omega) (by omega))) ⟨Km (by omega),Qa 1 _ ⟨rfl,Qa 1 _ ⟨Kr (by omega),Qa 1 _ (Ql (congrArg (Value.int .i64) (Qz _ (by omega) (by omega))) ⟨Km (by omega),Qa 1 _ ⟨rfl,Qa 8 _ (Qa 4 _ (Qa 8 _ (Qa 4 _ (Qa 8 _ (Qa 4 _ ?_)))))⟩⟩)⟩⟩⟩)⟩⟩⟩
      unfold Z4
      have hD:Qb d 0+18446744073709551616*Qb d 1=d:=by
        have e:=qi d
        rw [Qc r_d] at e
        simp only [beq_iff_eq,beq_eq_false_iff_ne] at *
        omega
      rw [hD] at N1
      have A:((x27.1+18446744073709551616*(x26.1+18446744073709551616*(x25.1+18446744073709551616*(x24.1+18446744073709551616*(x23.1+18446744073709551616*(x22.1+18446744073709551616*x21.1)))))))*(x20.1+18446744073709551616*x20.2)+(x27.2.1+18446744073709551616*x27.2.2.1+340282366920938463463374607431768211456*x27.2.2.2)=n*p:=by rw [←E];rw [A0];omega
      obtain ⟨G1,G2,G3⟩:=WV A N1 h23.r0 h23.r1 hp
      have G4:=QhJ hp hq hpq hVk h23_0 h23_1 h23_2 G2 h23.r1
      have c0:=Yw (x:=x27.2.1) (y:=x27.2.2.1) (s:=((QZ (Qb d 1):Nat):Int)) (Jl _) (Z1 (Qn _ _) ‹_›) h23_0 h23_1
      rw [e1,e2] at c0
      have cw0:=V7 (y:=x27.2.2.1) hp hq hpq h23_0
      have c1:=Yw (x:=x27.2.2.1) (y:=x27.2.2.2) (s:=((QZ (Qb d 1):Nat):Int)) (Jl _) (Z1 (Qn _ _) ‹_›) h23_1 h23_2
      rw [e1,e2] at c1
      have cw1:=V7 (y:=x27.2.2.2) hp hq hpq h23_1
      have W0:W 0:=by unfold W;decide
      have Hq:Qe (.agg #[.int .u64 x27.1, .int .u64 x26.1, .int .u64 x25.1, .int .u64 x24.1, .int .u64 x23.1, .int .u64 x22.1, .int .u64 x21.1, .int .u64 0])=n/d:=by rw [G1,Bq];omega
      have Hr:Qe (.agg #[.int .u64 (x27.2.1/p+x27.2.2.1*q%18446744073709551616), .int .u64 (x27.2.2.1/p+x27.2.2.2*q%18446744073709551616), .int .u64 0, .int .u64 0])=n%d:=by rw [←G4,Hd];omega
      have Hv:=yA (show W x27.1 by first | assumption | exact W0) (show W x26.1 by first | assumption | exact W0) (show W x25.1 by first | assumption | exact W0) (show W x24.1 by first | assumption | exact W0) (show W x23.1 by first | assumption | exact W0) (show W x22.1 by first | assumption | exact W0) (show W x21.1 by first | assumption | exact W0) (show W 0 by first | assumption | exact W0)
      have Hw:=VS cw0 cw1 W0 W0
      rw [Hq] at Hv
      rw [Hr] at Hw
      refine QeF (n:=n/d) (r:=n%d) (by rw [UK r_n,Qc r_d];unfold qg;rw [if_neg G3]) (Hq▸WQ (by first | assumption | exact W0) (by first | assumption | exact W0) (by first | assumption | exact W0) (by first | assumption | exact W0) (by first | assumption | exact W0) (by first | assumption | exact W0) (by first | assumption | exact W0) (by first | assumption | exact W0)) (Hr▸KY cw0 cw1 W0 W0) Hv ?_
      rw [Hw,c0,c1]
    refine ⟨rfl,Qa 1 _ (Vr (Qb d 2) (Ql (congrArg (Value.int .i64) (Qa1 (Qn _ _) ‹_›)) (fun b28=>fun b29=>VH b28 b1 (Qb n 0) (Qb n 1) (Qb n 2) (Qb n 3) (Qb n 4) (Qb n 5) (Qb n 6) (Qb n 7) ((QZ (Qb d 2):Nat):Int) (fun x30 h24=> ?_) (s0:=Jl _) (s1:=Z1 (Qn _ _) ‹_›) (wc0:=Qn _ _) (wc1:=Qn _ _) (wc2:=Qn _ _) (wc3:=Qn _ _) (wc4:=Qn _ _) (wc5:=Qn _ _) (wc6:=Qn _ _) (wc7:=Qn _ _) (wt:=yf (Jl _) (Z1 (Qn _ _) ‹_›) (Qn _ _) (Qn _ _) (Qn _ _) (Qn _ _) (Qn _ _) (Qn _ _) (Qn _ _) (Qn _ _)))))⟩
    obtain ⟨E,wx0,wx1,wx2,wx3,wx4,wx5,wx6,wx7,wx8⟩:=h24
    refine QH (QcN b29 b2 (Qb d 0) (Qb d 1) (Qb d 2) (Qb d 3) ((QZ (Qb d 2):Nat):Int) (Jl _) (Z1 (Qn _ _) ‹_›) (Qn _ _) (Qn _ _) (Qn _ _)) (Qfz (Jl _) (Z1 (Qn _ _) ‹_›) (Qn _ _) (Qn _ _) (Qn _ _)) fun x31 h25=> ?_
    obtain ⟨F,wz0,wz1,wz2⟩:=h25
    obtain ⟨N1,N2,N3⟩:=Qg9 (Qn _ _) ‹_› wz0 wz1 wz2 (Qn _ _) (Qn _ _) F
    obtain ⟨p,q,hp',hq',hp,hq,hpq,hp2,ht,h0,e1,e2⟩:=VU (Qn d 2) ‹_›
    have n63:=Z1 (Qn d 2) ‹_›
    rw [e1,Qbk r_n] at E
    rw [←hp'] at N1
    have hVk:x31.1+18446744073709551616*x31.2.1+340282366920938463463374607431768211456*x31.2.2<6277101735386680763835789423207666416102355444464034512896:=by unfold W at wz0 wz1 wz2;omega
    have V0:0<x31.1+18446744073709551616*x31.2.1+340282366920938463463374607431768211456*x31.2.2:=by omega
    have hlt5:=Qg0 r_n hp hp2 wx0 wx1 wx2 wx3 wx4 wx5 wx6 wx7 wx8 E N2
    refine ⟨rfl,Kd b28 (#[uu x30.1,uu x30.2.1,uu x30.2.2.1,uu x30.2.2.2.1,uu x30.2.2.2.2.1,uu x30.2.2.2.2.2.1,uu x30.2.2.2.2.2.2.1,uu x30.2.2.2.2.2.2.2.1,uu x30.2.2.2.2.2.2.2.2]) 5 4 x30.2.2.2.2.2.1 x30.2.2.2.2.2.2.1 x30.2.2.2.2.2.2.2.1 x30.2.2.2.2.2.2.2.2 b29 x31.1 x31.2.1 x31.2.2 (fun x32 h26=> ?_) (hsz:=Nat.le_of_ble_eq_true rfl) (hu0:=rfl) (hu1:=rfl) (hu2:=rfl) (hu3:=rfl) (wu0:=by assumption) (wu1:=by assumption) (wu2:=by assumption) (wu3:=by assumption) (wv0:=by assumption) (wv1:=by assumption) (wv2:=by assumption) (hlt:=hlt5) (hv:=N3) (wt:=Vc (nn4 ‹_› ‹_› ‹_› ‹_›) hlt5 V0 hVk)⟩
    obtain ⟨h26,h26_0,h26_1,h26_2,h26_3⟩:=h26
    have A5:=h26.eq
    obtain ⟨hu4,hlt4⟩:=vN (x:=x30.2.2.2.2.1) h26 wx4 h26_0 h26_1 h26_2 h26_3 hVk
    have wqh26:=h26.wq
    refine Qa 1 _ ⟨rfl,Kd b28 (#[uu x30.1,uu x30.2.1,uu x30.2.2.1,uu x30.2.2.2.1,uu x30.2.2.2.2.1,uu x32.2.1,uu x32.2.2.1,uu x32.2.2.2.1,uu x32.2.2.2.2]) 4 5 x30.2.2.2.2.1 x32.2.1 x32.2.2.1 x32.2.2.2.1 b29 x31.1 x31.2.1 x31.2.2 (fun x33 h27=> ?_) (hsz:=Nat.le_of_ble_eq_true rfl) (hu0:=rfl) (hu1:=rfl) (hu2:=rfl) (hu3:=rfl) (wu0:=by assumption) (wu1:=by assumption) (wu2:=by assumption) (wu3:=by assumption) (wv0:=by assumption) (wv1:=by assumption) (wv2:=by assumption) (hlt:=hlt4) (hv:=N3) (wt:=Vc (nn4 ‹_› ‹_› ‹_› ‹_›) hlt4 V0 hVk)⟩
    obtain ⟨h27,h27_0,h27_1,h27_2,h27_3⟩:=h27
    rw [hu4] at h27
    have A4:=Zo A5 h27
    obtain ⟨hu3,hlt3⟩:=vN (x:=x30.2.2.2.1) h27 wx3 h27_0 h27_1 h27_2 h27_3 hVk
    have wqh27:=h27.wq
    refine Qa 1 _ ⟨rfl,Kd b28 (#[uu x30.1,uu x30.2.1,uu x30.2.2.1,uu x30.2.2.2.1,uu x33.2.1,uu x33.2.2.1,uu x33.2.2.2.1,uu x33.2.2.2.2,uu x32.2.2.2.2]) 3 6 x30.2.2.2.1 x33.2.1 x33.2.2.1 x33.2.2.2.1 b29 x31.1 x31.2.1 x31.2.2 (fun x34 h28=> ?_) (hsz:=Nat.le_of_ble_eq_true rfl) (hu0:=rfl) (hu1:=rfl) (hu2:=rfl) (hu3:=rfl) (wu0:=by assumption) (wu1:=by assumption) (wu2:=by assumption) (wu3:=by assumption) (wv0:=by assumption) (wv1:=by assumption) (wv2:=by assumption) (hlt:=hlt3) (hv:=N3) (wt:=Vc (nn4 ‹_› ‹_› ‹_› ‹_›) hlt3 V0 hVk)⟩
    obtain ⟨h28,h28_0,h28_1,h28_2,h28_3⟩:=h28
    rw [hu3] at h28
    have A3:=Zo A4 h28
    obtain ⟨hu2,hlt2⟩:=vN (x:=x30.2.2.1) h28 wx2 h28_0 h28_1 h28_2 h28_3 hVk
    have wqh28:=h28.wq
    refine Qa 1 _ ⟨rfl,Kd b28 (#[uu x30.1,uu x30.2.1,uu x30.2.2.1,uu x34.2.1,uu x34.2.2.1,uu x34.2.2.2.1,uu x34.2.2.2.2,uu x33.2.2.2.2,uu x32.2.2.2.2]) 2 7 x30.2.2.1 x34.2.1 x34.2.2.1 x34.2.2.2.1 b29 x31.1 x31.2.1 x31.2.2 (fun x35 h29=> ?_) (hsz:=Nat.le_of_ble_eq_true rfl) (hu0:=rfl) (hu1:=rfl) (hu2:=rfl) (hu3:=rfl) (wu0:=by assumption) (wu1:=by assumption) (wu2:=by assumption) (wu3:=by assumption) (wv0:=by assumption) (wv1:=by assumption) (wv2:=by assumption) (hlt:=hlt2) (hv:=N3) (wt:=Vc (nn4 ‹_› ‹_› ‹_› ‹_›) hlt2 V0 hVk)⟩
    obtain ⟨h29,h29_0,h29_1,h29_2,h29_3⟩:=h29
    rw [hu2] at h29
    have A2:=Zo A3 h29
    obtain ⟨hu1,hlt1⟩:=vN (x:=x30.2.1) h29 wx1 h29_0 h29_1 h29_2 h29_3 hVk
    have wqh29:=h29.wq
    refine Qa 1 _ ⟨rfl,Kd b28 (#[uu x30.1,uu x30.2.1,uu x35.2.1,uu x35.2.2.1,uu x35.2.2.2.1,uu x35.2.2.2.2,uu x34.2.2.2.2,uu x33.2.2.2.2,uu x32.2.2.2.2]) 1 8 x30.2.1 x35.2.1 x35.2.2.1 x35.2.2.2.1 b29 x31.1 x31.2.1 x31.2.2 (fun x36 h30=> ?_) (hsz:=Nat.le_of_ble_eq_true rfl) (hu0:=rfl) (hu1:=rfl) (hu2:=rfl) (hu3:=rfl) (wu0:=by assumption) (wu1:=by assumption) (wu2:=by assumption) (wu3:=by assumption) (wv0:=by assumption) (wv1:=by assumption) (wv2:=by assumption) (hlt:=hlt1) (hv:=N3) (wt:=Vc (nn4 ‹_› ‹_› ‹_› ‹_›) hlt1 V0 hVk)⟩
    obtain ⟨h30,h30_0,h30_1,h30_2,h30_3⟩:=h30
    rw [hu1] at h30
    have A1:=Zo A2 h30
    obtain ⟨hu0,hlt0⟩:=vN (x:=x30.1) h30 wx0 h30_0 h30_1 h30_2 h30_3 hVk
    have wqh30:=h30.wq
    refine Qa 1 _ ⟨rfl,Kd b28 (#[uu x30.1,uu x36.2.1,uu x36.2.2.1,uu x36.2.2.2.1,uu x36.2.2.2.2,uu x35.2.2.2.2,uu x34.2.2.2.2,uu x33.2.2.2.2,uu x32.2.2.2.2]) 0 9 x30.1 x36.2.1 x36.2.2.1 x36.2.2.2.1 b29 x31.1 x31.2.1 x31.2.2 (fun x37 h31=> ?_) (hsz:=Nat.le_of_ble_eq_true rfl) (hu0:=rfl) (hu1:=rfl) (hu2:=rfl) (hu3:=rfl) (wu0:=by assumption) (wu1:=by assumption) (wu2:=by assumption) (wu3:=by assumption) (wv0:=by assumption) (wv1:=by assumption) (wv2:=by assumption) (hlt:=hlt0) (hv:=N3) (wt:=Vc (nn4 ‹_› ‹_› ‹_› ‹_›) hlt0 V0 hVk)⟩
    obtain ⟨h31,h31_0,h31_1,h31_2,h31_3⟩:=h31
    rw [hu0] at h31
    have A0:=Zo A1 h31
    have wqh31:=h31.wq
    refine Qa 1 _ ⟨rfl,⟨rfl,Qa 1 _ ⟨Kr (by omega),Qa 1 _ (Ql (congrArg (Value.int .i64) (Qz _ (by omega) (by omega))) ⟨Km (by omega),Qa 1 _ ⟨rfl,Qa 1 _ ⟨Kr (by omega),Qa 1 _ (Ql (congrArg (Value.int .i64) (Qz _ (by omega) (by omega))) ⟨Km (by omega),Qa 1 _ ⟨rfl,Qa 1 _ ⟨Kr (by omega),Qa 1 _ (Ql (congrArg (Value.int .i64) (Qz _ (by omega) (by omega))) ⟨Km (by omega),Qa 1 _ ⟨rfl,Qa 8 _ (Qa 4 _ (Qa 8 _ (Qa 4 _ (Qa 8 _ (Qa 4 _ ?_)))))⟩⟩)⟩⟩⟩)⟩⟩⟩)⟩⟩⟩
    unfold Z4
    have hD:Qb d 0+18446744073709551616*Qb d 1+340282366920938463463374607431768211456*Qb d 2=d:=by
      have e:=qi d
      rw [Qc r_d] at e
      simp only [beq_iff_eq,beq_eq_false_iff_ne] at *
      omega
    rw [hD] at N1
    have A:((x37.1+18446744073709551616*(x36.1+18446744073709551616*(x35.1+18446744073709551616*(x34.1+18446744073709551616*(x33.1+18446744073709551616*x32.1))))))*(x31.1+18446744073709551616*x31.2.1+340282366920938463463374607431768211456*x31.2.2)+(x37.2.1+18446744073709551616*x37.2.2.1+340282366920938463463374607431768211456*x37.2.2.2.1+6277101735386680763835789423207666416102355444464034512896*x37.2.2.2.2)=n*p:=by rw [←E];rw [A0];omega
    obtain ⟨G1,G2,G3⟩:=WV A N1 h31.r0 h31.r1 hp
    have G4:=Qhq hp hq hpq hVk h31_0 h31_1 h31_2 h31_3 G2 h31.r1
    have c0:=Yw (x:=x37.2.1) (y:=x37.2.2.1) (s:=((QZ (Qb d 2):Nat):Int)) (Jl _) (Z1 (Qn _ _) ‹_›) h31_0 h31_1
    rw [e1,e2] at c0
    have cw0:=V7 (y:=x37.2.2.1) hp hq hpq h31_0
    have c1:=Yw (x:=x37.2.2.1) (y:=x37.2.2.2.1) (s:=((QZ (Qb d 2):Nat):Int)) (Jl _) (Z1 (Qn _ _) ‹_›) h31_1 h31_2
    rw [e1,e2] at c1
    have cw1:=V7 (y:=x37.2.2.2.1) hp hq hpq h31_1
    have c2:=Yw (x:=x37.2.2.2.1) (y:=x37.2.2.2.2) (s:=((QZ (Qb d 2):Nat):Int)) (Jl _) (Z1 (Qn _ _) ‹_›) h31_2 h31_3
    rw [e1,e2] at c2
    have cw2:=V7 (y:=x37.2.2.2.2) hp hq hpq h31_2
    have W0:W 0:=by unfold W;decide
    have Hq:Qe (.agg #[.int .u64 x37.1, .int .u64 x36.1, .int .u64 x35.1, .int .u64 x34.1, .int .u64 x33.1, .int .u64 x32.1, .int .u64 0, .int .u64 0])=n/d:=by rw [G1,Bq];omega
    have Hr:Qe (.agg #[.int .u64 (x37.2.1/p+x37.2.2.1*q%18446744073709551616), .int .u64 (x37.2.2.1/p+x37.2.2.2.1*q%18446744073709551616), .int .u64 (x37.2.2.2.1/p+x37.2.2.2.2*q%18446744073709551616), .int .u64 0])=n%d:=by rw [←G4,Hd];omega
    have Hv:=yA (show W x37.1 by first | assumption | exact W0) (show W x36.1 by first | assumption | exact W0) (show W x35.1 by first | assumption | exact W0) (show W x34.1 by first | assumption | exact W0) (show W x33.1 by first | assumption | exact W0) (show W x32.1 by first | assumption | exact W0) (show W 0 by first | assumption | exact W0) (show W 0 by first | assumption | exact W0)
    have Hw:=VS cw0 cw1 cw2 W0
    rw [Hq] at Hv
    rw [Hr] at Hw
    refine QeF (n:=n/d) (r:=n%d) (by rw [UK r_n,Qc r_d];unfold qg;rw [if_neg G3]) (Hq▸WQ (by first | assumption | exact W0) (by first | assumption | exact W0) (by first | assumption | exact W0) (by first | assumption | exact W0) (by first | assumption | exact W0) (by first | assumption | exact W0) (by first | assumption | exact W0) (by first | assumption | exact W0)) (Hr▸KY cw0 cw1 cw2 W0) Hv ?_
    rw [Hw,c0,c1,c2]
  refine ⟨rfl,Qa 1 _ (Vr (Qb d 3) (Ql (congrArg (Value.int .i64) (Qa1 (Qn _ _) ‹_›)) (fun b38=>fun b39=>VH b38 b1 (Qb n 0) (Qb n 1) (Qb n 2) (Qb n 3) (Qb n 4) (Qb n 5) (Qb n 6) (Qb n 7) ((QZ (Qb d 3):Nat):Int) (fun x40 h32=> ?_) (s0:=Jl _) (s1:=Z1 (Qn _ _) ‹_›) (wc0:=Qn _ _) (wc1:=Qn _ _) (wc2:=Qn _ _) (wc3:=Qn _ _) (wc4:=Qn _ _) (wc5:=Qn _ _) (wc6:=Qn _ _) (wc7:=Qn _ _) (wt:=yf (Jl _) (Z1 (Qn _ _) ‹_›) (Qn _ _) (Qn _ _) (Qn _ _) (Qn _ _) (Qn _ _) (Qn _ _) (Qn _ _) (Qn _ _)))))⟩
  obtain ⟨E,wx0,wx1,wx2,wx3,wx4,wx5,wx6,wx7,wx8⟩:=h32
  refine QH (Qdd b39 b2 (Qb d 0) (Qb d 1) (Qb d 2) (Qb d 3) ((QZ (Qb d 3):Nat):Int) (Jl _) (Z1 (Qn _ _) ‹_›) (Qn _ _) (Qn _ _) (Qn _ _) (Qn _ _)) (QeS (Jl _) (Z1 (Qn _ _) ‹_›) (Qn _ _) (Qn _ _) (Qn _ _) (Qn _ _)) fun x41 h33=> ?_
  obtain ⟨F,wz0,wz1,wz2,wz3⟩:=h33
  obtain ⟨N1,N2,N3⟩:=Qg6 (Qn _ _) ‹_› wz0 wz1 wz2 wz3 (Qn _ _) (Qn _ _) (Qn _ _) F
  obtain ⟨p,q,hp',hq',hp,hq,hpq,hp2,ht,h0,e1,e2⟩:=VU (Qn d 3) ‹_›
  have n63:=Z1 (Qn d 3) ‹_›
  rw [e1,Qbk r_n] at E
  rw [←hp'] at N1
  have hVk:x41.1+18446744073709551616*x41.2.1+340282366920938463463374607431768211456*x41.2.2.1+6277101735386680763835789423207666416102355444464034512896*x41.2.2.2<115792089237316195423570985008687907853269984665640564039457584007913129639936:=by unfold W at wz0 wz1 wz2 wz3;omega
  have V0:0<x41.1+18446744073709551616*x41.2.1+340282366920938463463374607431768211456*x41.2.2.1+6277101735386680763835789423207666416102355444464034512896*x41.2.2.2:=by omega
  have hlt4:=QgA r_n hp hp2 wx0 wx1 wx2 wx3 wx4 wx5 wx6 wx7 wx8 E N2
  refine ⟨rfl,KN b38 (#[uu x40.1,uu x40.2.1,uu x40.2.2.1,uu x40.2.2.2.1,uu x40.2.2.2.2.1,uu x40.2.2.2.2.2.1,uu x40.2.2.2.2.2.2.1,uu x40.2.2.2.2.2.2.2.1,uu x40.2.2.2.2.2.2.2.2]) 4 5 x40.2.2.2.2.1 x40.2.2.2.2.2.1 x40.2.2.2.2.2.2.1 x40.2.2.2.2.2.2.2.1 x40.2.2.2.2.2.2.2.2 b39 x41.1 x41.2.1 x41.2.2.1 x41.2.2.2 (fun x42 h34=> ?_) (hsz:=Nat.le_of_ble_eq_true rfl) (hu0:=rfl) (hu1:=rfl) (hu2:=rfl) (hu3:=rfl) (hu4:=rfl) (wu0:=by assumption) (wu1:=by assumption) (wu2:=by assumption) (wu3:=by assumption) (wu4:=by assumption) (wv0:=by assumption) (wv1:=by assumption) (wv2:=by assumption) (wv3:=by assumption) (hlt:=hlt4) (hv:=N3) (wt:=Ug (nn5 ‹_› ‹_› ‹_› ‹_› ‹_›) hlt4 V0 hVk)⟩
  obtain ⟨h34,h34_0,h34_1,h34_2,h34_3,h34_4⟩:=h34
  have A4:=h34.eq
  obtain ⟨hu3,hlt3⟩:=Qbi (x:=x40.2.2.2.1) h34 wx3 h34_0 h34_1 h34_2 h34_3 h34_4 hVk
  have wqh34:=h34.wq
  refine Qa 1 _ ⟨rfl,KN b38 (#[uu x40.1,uu x40.2.1,uu x40.2.2.1,uu x40.2.2.2.1,uu x42.2.1,uu x42.2.2.1,uu x42.2.2.2.1,uu x42.2.2.2.2.1,uu x42.2.2.2.2.2]) 3 6 x40.2.2.2.1 x42.2.1 x42.2.2.1 x42.2.2.2.1 x42.2.2.2.2.1 b39 x41.1 x41.2.1 x41.2.2.1 x41.2.2.2 (fun x43 h35=> ?_) (hsz:=Nat.le_of_ble_eq_true rfl) (hu0:=rfl) (hu1:=rfl) (hu2:=rfl) (hu3:=rfl) (hu4:=rfl) (wu0:=by assumption) (wu1:=by assumption) (wu2:=by assumption) (wu3:=by assumption) (wu4:=by assumption) (wv0:=by assumption) (wv1:=by assumption) (wv2:=by assumption) (wv3:=by assumption) (hlt:=hlt3) (hv:=N3) (wt:=Ug (nn5 ‹_› ‹_› ‹_› ‹_› ‹_›) hlt3 V0 hVk)⟩
  obtain ⟨h35,h35_0,h35_1,h35_2,h35_3,h35_4⟩:=h35
  rw [hu3] at h35
  have A3:=Zo A4 h35
  obtain ⟨hu2,hlt2⟩:=Qbi (x:=x40.2.2.1) h35 wx2 h35_0 h35_1 h35_2 h35_3 h35_4 hVk
  have wqh35:=h35.wq
  refine Qa 1 _ ⟨rfl,KN b38 (#[uu x40.1,uu x40.2.1,uu x40.2.2.1,uu x43.2.1,uu x43.2.2.1,uu x43.2.2.2.1,uu x43.2.2.2.2.1,uu x43.2.2.2.2.2,uu x42.2.2.2.2.2]) 2 7 x40.2.2.1 x43.2.1 x43.2.2.1 x43.2.2.2.1 x43.2.2.2.2.1 b39 x41.1 x41.2.1 x41.2.2.1 x41.2.2.2 (fun x44 h36=> ?_) (hsz:=Nat.le_of_ble_eq_true rfl) (hu0:=rfl) (hu1:=rfl) (hu2:=rfl) (hu3:=rfl) (hu4:=rfl) (wu0:=by assumption) (wu1:=by assumption) (wu2:=by assumption) (wu3:=by assumption) (wu4:=by assumption) (wv0:=by assumption) (wv1:=by assumption) (wv2:=by assumption) (wv3:=by assumption) (hlt:=hlt2) (hv:=N3) (wt:=Ug (nn5 ‹_› ‹_› ‹_› ‹_› ‹_›) hlt2 V0 hVk)⟩
  obtain ⟨h36,h36_0,h36_1,h36_2,h36_3,h36_4⟩:=h36
  rw [hu2] at h36
  have A2:=Zo A3 h36
  obtain ⟨hu1,hlt1⟩:=Qbi (x:=x40.2.1) h36 wx1 h36_0 h36_1 h36_2 h36_3 h36_4 hVk
  have wqh36:=h36.wq
  refine Qa 1 _ ⟨rfl,KN b38 (#[uu x40.1,uu x40.2.1,uu x44.2.1,uu x44.2.2.1,uu x44.2.2.2.1,uu x44.2.2.2.2.1,uu x44.2.2.2.2.2,uu x43.2.2.2.2.2,uu x42.2.2.2.2.2]) 1 8 x40.2.1 x44.2.1 x44.2.2.1 x44.2.2.2.1 x44.2.2.2.2.1 b39 x41.1 x41.2.1 x41.2.2.1 x41.2.2.2 (fun x45 h37=> ?_) (hsz:=Nat.le_of_ble_eq_true rfl) (hu0:=rfl) (hu1:=rfl) (hu2:=rfl) (hu3:=rfl) (hu4:=rfl) (wu0:=by assumption) (wu1:=by assumption) (wu2:=by assumption) (wu3:=by assumption) (wu4:=by assumption) (wv0:=by assumption) (wv1:=by assumption) (wv2:=by assumption) (wv3:=by assumption) (hlt:=hlt1) (hv:=N3) (wt:=Ug (nn5 ‹_› ‹_› ‹_› ‹_› ‹_›) hlt1 V0 hVk)⟩
  obtain ⟨h37,h37_0,h37_1,h37_2,h37_3,h37_4⟩:=h37
  rw [hu1] at h37
  have A1:=Zo A2 h37
  obtain ⟨hu0,hlt0⟩:=Qbi (x:=x40.1) h37 wx0 h37_0 h37_1 h37_2 h37_3 h37_4 hVk
  have wqh37:=h37.wq
  refine Qa 1 _ ⟨rfl,KN b38 (#[uu x40.1,uu x45.2.1,uu x45.2.2.1,uu x45.2.2.2.1,uu x45.2.2.2.2.1,uu x45.2.2.2.2.2,uu x44.2.2.2.2.2,uu x43.2.2.2.2.2,uu x42.2.2.2.2.2]) 0 9 x40.1 x45.2.1 x45.2.2.1 x45.2.2.2.1 x45.2.2.2.2.1 b39 x41.1 x41.2.1 x41.2.2.1 x41.2.2.2 (fun x46 h38=> ?_) (hsz:=Nat.le_of_ble_eq_true rfl) (hu0:=rfl) (hu1:=rfl) (hu2:=rfl) (hu3:=rfl) (hu4:=rfl) (wu0:=by assumption) (wu1:=by assumption) (wu2:=by assumption) (wu3:=by assumption) (wu4:=by assumption) (wv0:=by assumption) (wv1:=by assumption) (wv2:=by assumption) (wv3:=by assumption) (hlt:=hlt0) (hv:=N3) (wt:=Ug (nn5 ‹_› ‹_› ‹_› ‹_› ‹_›) hlt0 V0 hVk)⟩
  obtain ⟨h38,h38_0,h38_1,h38_2,h38_3,h38_4⟩:=h38
  rw [hu0] at h38
  have A0:=Zo A1 h38
  have wqh38:=h38.wq
  refine Qa 1 _ ⟨rfl,⟨rfl,Qa 1 _ ⟨Kr (by omega),Qa 1 _ (Ql (congrArg (Value.int .i64) (Qz _ (by omega) (by omega))) ⟨Km (by omega),Qa 1 _ ⟨rfl,Qa 1 _ ⟨Kr (by omega),Qa 1 _ (Ql (congrArg (Value.int .i64) (Qz _ (by omega) (by omega))) ⟨Km (by omega),Qa 1 _ ⟨rfl,Qa 1 _ ⟨Kr (by omega),Qa 1 _ (Ql (congrArg (Value.int .i64) (Qz _ (by omega) (by omega))) ⟨Km (by omega),Qa 1 _ ⟨rfl,Qa 1 _ ⟨Kr (by omega),Qa 1 _ (Ql (congrArg (Value.int .i64) (Qz _ (by omega) (by omega))) ⟨Km (by omega),Qa 1 _ ⟨rfl,Qa 8 _ (Qa 4 _ (Qa 8 _ (Qa 4 _ (Qa 8 _ (Qa 4 _ ?_)))))⟩⟩)⟩⟩⟩)⟩⟩⟩)⟩⟩⟩)⟩⟩⟩
  unfold Z4
  have hD:Qb d 0+18446744073709551616*Qb d 1+340282366920938463463374607431768211456*Qb d 2+6277101735386680763835789423207666416102355444464034512896*Qb d 3=d:=by
    have e:=qi d
    rw [Qc r_d] at e
    simp only [beq_iff_eq,beq_eq_false_iff_ne] at *
    omega
  rw [hD] at N1
  have A:((x46.1+18446744073709551616*(x45.1+18446744073709551616*(x44.1+18446744073709551616*(x43.1+18446744073709551616*x42.1)))))*(x41.1+18446744073709551616*x41.2.1+340282366920938463463374607431768211456*x41.2.2.1+6277101735386680763835789423207666416102355444464034512896*x41.2.2.2)+(x46.2.1+18446744073709551616*x46.2.2.1+340282366920938463463374607431768211456*x46.2.2.2.1+6277101735386680763835789423207666416102355444464034512896*x46.2.2.2.2.1+115792089237316195423570985008687907853269984665640564039457584007913129639936*x46.2.2.2.2.2)=n*p:=by rw [←E];rw [A0];omega
  obtain ⟨G1,G2,G3⟩:=WV A N1 h38.r0 h38.r1 hp
  have G4:=QhU hp hq hpq hVk h38_0 h38_1 h38_2 h38_3 h38_4 G2 h38.r1
  have c0:=Yw (x:=x46.2.1) (y:=x46.2.2.1) (s:=((QZ (Qb d 3):Nat):Int)) (Jl _) (Z1 (Qn _ _) ‹_›) h38_0 h38_1
  rw [e1,e2] at c0
  have cw0:=V7 (y:=x46.2.2.1) hp hq hpq h38_0
  have c1:=Yw (x:=x46.2.2.1) (y:=x46.2.2.2.1) (s:=((QZ (Qb d 3):Nat):Int)) (Jl _) (Z1 (Qn _ _) ‹_›) h38_1 h38_2
  rw [e1,e2] at c1
  have cw1:=V7 (y:=x46.2.2.2.1) hp hq hpq h38_1
  have c2:=Yw (x:=x46.2.2.2.1) (y:=x46.2.2.2.2.1) (s:=((QZ (Qb d 3):Nat):Int)) (Jl _) (Z1 (Qn _ _) ‹_›) h38_2 h38_3
  rw [e1,e2] at c2
  have cw2:=V7 (y:=x46.2.2.2.2.1) hp hq hpq h38_2
  have c3:=Yw (x:=x46.2.2.2.2.1) (y:=x46.2.2.2.2.2) (s:=((QZ (Qb d 3):Nat):Int)) (Jl _) (Z1 (Qn _ _) ‹_›) h38_3 h38_4
  rw [e1,e2] at c3
  have cw3:=V7 (y:=x46.2.2.2.2.2) hp hq hpq h38_3
  have W0:W 0:=by unfold W;decide
  have Hq:Qe (.agg #[.int .u64 x46.1, .int .u64 x45.1, .int .u64 x44.1, .int .u64 x43.1, .int .u64 x42.1, .int .u64 0, .int .u64 0, .int .u64 0])=n/d:=by rw [G1,Bq];omega
  have Hr:Qe (.agg #[.int .u64 (x46.2.1/p+x46.2.2.1*q%18446744073709551616), .int .u64 (x46.2.2.1/p+x46.2.2.2.1*q%18446744073709551616), .int .u64 (x46.2.2.2.1/p+x46.2.2.2.2.1*q%18446744073709551616), .int .u64 (x46.2.2.2.2.1/p+x46.2.2.2.2.2*q%18446744073709551616)])=n%d:=by rw [←G4,Hd];omega
  have Hv:=yA (show W x46.1 by first | assumption | exact W0) (show W x45.1 by first | assumption | exact W0) (show W x44.1 by first | assumption | exact W0) (show W x43.1 by first | assumption | exact W0) (show W x42.1 by first | assumption | exact W0) (show W 0 by first | assumption | exact W0) (show W 0 by first | assumption | exact W0) (show W 0 by first | assumption | exact W0)
  have Hw:=VS cw0 cw1 cw2 cw3
  rw [Hq] at Hv
  rw [Hr] at Hw
  refine QeF (n:=n/d) (r:=n%d) (by rw [UK r_n,Qc r_d];unfold qg;rw [if_neg G3]) (Hq▸WQ (by first | assumption | exact W0) (by first | assumption | exact W0) (by first | assumption | exact W0) (by first | assumption | exact W0) (by first | assumption | exact W0) (by first | assumption | exact W0) (by first | assumption | exact W0) (by first | assumption | exact W0)) (Hr▸KY cw0 cw1 cw2 cw3) Hv ?_
  rw [Hw,c0,c1,c2,c3]
theorem JD (a b:Int):Qg Tryz.prog (Q0 .eql 35 (vI a) (vI b)) (.bool (Qe (vI a)==Qe (vI b))):=Qic (e:=33) (by kernel_rfl) (by kernel_rfl) (fun w=>by kernel_rfl) (fun w=>by kernel_rfl) (by kernel_rfl) a b
theorem Qel (a b:Int):Qg Tryz.prog (Q0 .neq 35 (vI a) (vI b)) (.bool (Qe (vI a) !=Qe (vI b))):=Qin (e:=33) (by kernel_rfl) (by kernel_rfl) (fun w=>by kernel_rfl) (fun w=>by kernel_rfl) (by kernel_rfl) a b
def FK:List Value->List Qf->ZB:=fun vs hs=>⟨Int×Int,fun J=> .tuple #[vI J.1,ii J.2],fun _=>hs,fun J=>R4 J.1/\J=jm (Qe (Qd vs 1))⟩
abbrev jJ (w:Int) (zv:Value) :Prop:= ∃J:Int×Int,(R4 J.1/\J=jm (Qe (vW w)))/\zv= .tuple #[vI J.1,ii J.2]/\True
abbrev jI (w:Int) (zF:SF (Int×Int)):Prop:=zF #[vW w] [] (fun J=> .tuple #[vI J.1,ii J.2]) (fun J=> []) (fun J=>(R4 J.1/\J=jm (Qe (vW w))))
theorem Hh (w:Int):jI w (fun za zh zv zu zp=>QB Tryz.prog 20 none 2000 none (Qk Tryz.f94) (.reg [.sem [.nw 0], .sem [.nw 1],S0] (.reg [S0, .sem [.rd 0],S0, .sem [.rd 0],S0,S0, .sem [.rd 0],S0,S0, .sem [.rd 0],S0,S0] (.cond (.reg [S0, .sem (Zq 4 1),S0] (.done)) (.reg [S0,S0, .sem (QV 4 0), .sem (Zq 4 1),S0] (.done)))))
    (Q2 za zh) (Q8 Tryz.prog Tryz.f94 [.rd 1, .rd 1, .rd 1, .rd 1] [] (X:=Int×Int) zv zu zp))=
    (∀b1:Nat,∀b2:Nat,Qj 4 b1 ((((IntKind.u64.wrap ((BitVec.ofInt 64 (IntKind.u64.wrap ((BitVec.ofInt 64 (IntKind.u64.wrap ((BitVec.ofInt 64 (Qb w 4) ||| BitVec.ofInt 64 (Qb w 5):BitVec 64).toNat:Int)) ||| BitVec.ofInt 64 (Qb w 6):BitVec 64).toNat:Int)) ||| BitVec.ofInt 64 (Qb w 7):BitVec 64).toNat:Int)) !=(0:Int))=true->Qj 4 b2 (Qj 4 b2 (jJ w (Value.tuple #[.agg #[uu 0,uu 0,uu 0,uu 0],ii 2]))))/\(((IntKind.u64.wrap ((BitVec.ofInt 64 (IntKind.u64.wrap ((BitVec.ofInt 64 (IntKind.u64.wrap ((BitVec.ofInt 64 (Qb w 4) ||| BitVec.ofInt 64 (Qb w 5):BitVec 64).toNat:Int)) ||| BitVec.ofInt 64 (Qb w 6):BitVec 64).toNat:Int)) ||| BitVec.ofInt 64 (Qb w 7):BitVec 64).toNat:Int)) !=(0:Int))=false->Qj 4 b1 (Qj 4 b2 (Qj 4 b2 (jJ w (Value.tuple #[vI w,ii 0]))))))):=by kernel_rfl
theorem ga (w:Int) (r_w:R8 w):jI w (fun za zh zv zu zp=>QC Tryz.prog 94 za zh (Int×Int) zv zu zp):=by
  refine Qx (c:=Qk Tryz.f94) (n:=20) (fn:=Tryz.f94) QF Tryz.func94 (by kernel_rfl) (by kernel_rfl) (by kernel_rfl) 2000 _ [.rd 1, .rd 1, .rd 1, .rd 1] [] rfl rfl (Eq.mpr (Hh w) ?_)
  intro b1
  intro b2
  refine Qa 4 _ ⟨fun h1=> ?_,fun h1=> ?_⟩
  · exact Qa 4 _ (Qa 4 _ (p8 (QbT r_w ‹_›) QI Q3))
  exact Qa 4 _ (Qa 4 _ (Qa 4 _ (p8 (DC r_w ‹_›).1 (DC r_w ‹_›).2 rfl)))
def VX:List Value->List Qf->ZB:=fun vs hs=>⟨Int×Int,fun J=> .tuple #[vI J.1,ii J.2],fun _=>hs,fun J=>R4 J.1/\J=JH (Qe (Qd vs 1)) (Qe (Qd vs 2)) (Qe (Qd vs 3))⟩
abbrev jy (a b d:Int) (zv:Value) :Prop:= ∃J:Int×Int,(R4 J.1/\J=JH (Qe (vI a)) (Qe (vI b)) (Qe (vI d)))/\zv= .tuple #[vI J.1,ii J.2]/\True
abbrev VY (a b d:Int) (zF:SF (Int×Int)):Prop:=zF #[vI a,vI b,vI d] [] (fun J=> .tuple #[vI J.1,ii J.2]) (fun J=> []) (fun J=>(R4 J.1/\J=JH (Qe (vI a)) (Qe (vI b)) (Qe (vI d))))
theorem H6 (a b d:Int):VY a b d (fun za zh zv zu zp=>QB Tryz.prog 28 none 2000 none (Qk Tryz.f70) (.reg [.sem [.nw 0], .sem [.nw 1], .sem [.nw 2], .sem [.nw 3],S0] (.reg [.sem (QV 4 0), .sem (QV 4 1), .callr [] GZ, .sem (QV 4 2), .callr [] Fk,S0,S0,S0,S0, .sem [.nw 4], .sem [.nw 5], .sem (Zq 8 4), .sem (Zq 4 5),S0] (.reg [S0,S0] (.cond (.reg [S0,S0, .sem (Zq 4 3),S0] (.done)) (.reg [.sem (QV 8 4), .callr [] FK,S0,S0, .sem (Zq 4 3),S0] (.done))))))
    (Q2 za zh) (Q8 Tryz.prog Tryz.f70 [.rd 3, .rd 3, .rd 3, .rd 3] [] (X:=Int×Int) zv zu zp))=
    (∀b1:Nat,∀b2:Nat,∀b3:Nat,∀b4:Nat,Qj 4 b1 (Qj 4 b2 (Zh Tryz.prog 93 #[vI a,vI b] [] Int (fun J=>vW J) (fun J=>R8 J/\J=(Qe (vI a))*(Qe (vI b))) (fun x5=>Qj 4 b3 (Zh Tryz.prog 92 #[vW x5,vI d] [] (Int×Int×Int) (fun J=> .tuple #[vW J.1,vI J.2.1,ii J.2.2]) (fun J=>R8 J.1/\R4 J.2.1/\J=qg (Qe (vW x5)) (Qe (vI d))) (fun x6=> ∀b7:Nat,∀b8:Nat,Qj 8 b7 (Qj 4 b8 (((x6.2.2 !=(0:Int))=true->Qj 4 b4 (Qj 4 b4 (jy a b d (Value.tuple #[.agg #[uu 0,uu 0,uu 0,uu 0],ii x6.2.2]))))/\((x6.2.2 !=(0:Int))=false->Qj 8 b7 (Zh Tryz.prog 94 #[vW x6.1] [] (Int×Int) (fun J=> .tuple #[vI J.1,ii J.2]) (fun J=>R4 J.1/\J=jm (Qe (vW x6.1))) (fun x9=>Qj 4 b4 (Qj 4 b4 (jy a b d (Value.tuple #[vI x9.1,ii x9.2])))))))))))))):=by kernel_rfl
theorem gJ (a b d:Int) (r_a:R4 a) (r_b:R4 b) (r_d:R4 d):VY a b d (fun za zh zv zu zp=>QC Tryz.prog 70 za zh (Int×Int) zv zu zp):=by
  refine Qx (c:=Qk Tryz.f70) (n:=28) (fn:=Tryz.f70) QF Tryz.func70 (by kernel_rfl) (by kernel_rfl) (by kernel_rfl) 2000 _ [.rd 3, .rd 3, .rd 3, .rd 3] [] rfl rfl (Eq.mpr (H6 a b d) ?_)
  intro b1
  intro b2
  intro b3
  intro b4
  refine Qa 4 _ (Qa 4 _ (QN (Bo a b ‹_› ‹_›) (⟨_,xS (Qu a) (Qu b),rfl⟩) fun x5 h1=> ?_))
  obtain ⟨rh1_,h1⟩:=h1
  try simp only [Qc (n:=a) ‹_›,Qc (n:=b) ‹_›] at h1
  refine Qa 4 _ (QN (vJ x5 d ‹_› ‹_›) (⟨qg _ _,QaV (by first | exact QdR _ | exact by assumption) (Qu _),Qfo (Qu _),rfl⟩) fun x6 h2=> ?_)
  obtain ⟨rh2_1,h2⟩:=h2
  obtain ⟨rh2_21,h2⟩:=h2
  try simp only [UK (n:=x5) ‹_›,Qc (n:=d) ‹_›] at h2
  intro b7
  intro b8
  refine Qa 8 _ (Qa 4 _ ⟨fun h3=> ?_,fun h3=> ?_⟩)
  · refine Qa 4 _ (Qa 4 _ ?_)
    have hq:=(QgT (d:=d) ‹_› ‹_› ‹_›).1
    exact p8 (by rw [Qc r_a,Qc r_b,Qc r_d];exact hq) QI Q3
  refine Qa 8 _ (QN (ga x6.1 ‹_›) (⟨_,QdZ (QdR _),rfl⟩) fun x9 h4=> ?_)
  obtain ⟨rh4_1,h4⟩:=h4
  try simp only [UK (n:=x6.1) ‹_›] at h4
  refine Qa 4 _ (Qa 4 _ ?_)
  have hq:=Qg7 (d:=d) ‹_› ‹_› ‹_› ‹_›
  exact p8 (by rw [Qc r_a,Qc r_b,Qc r_d];exact hq) ‹_› rfl
abbrev Yy (a b d:Int) (KK:(Int×Int)->Prop):Prop:=VY a b d (fun za zh zv zu zp=>Zh Tryz.prog 70 za zh (Int×Int) zv zp KK)
theorem V5 (a b d:Int) {KK:(Int×Int)->Prop} (kont: ∀J:Int×Int,R4 J.1->(J=JH a b d)->KK J) (r_a:R4 a:=by assumption) (r_b:R4 b:=by assumption) (r_d:R4 d:=by assumption):Yy a b d KK:=QN (gJ a b d r_a r_b r_d) (⟨_,Qca (Qu _) (Qu _) (Qu _),rfl⟩) fun J hz=>by
  obtain ⟨rhz_1,hz⟩:=hz
  try simp only [Qc (n:=a) r_a,Qc (n:=b) r_b,Qc (n:=d) r_d] at hz
  exact kont J rhz_1 hz
theorem QP:FY Tryz.prog 101 3 (.int .i64 0):=FY.of (by kernel_rfl) (by kernel_rfl) (by kernel_rfl) (by kernel_rfl) rfl
theorem YM: ∀w,(isAgg 3).run Tryz.prog w= .ok false w:=fun w=>by kernel_rfl
theorem DW: ∀w,(sizeOf 3).run Tryz.prog w= .ok 1 w:=fun w=>by kernel_rfl
def XD:List Value->List Qf->ZB:=fun vs hs=>⟨Int,fun J=>ii J,fun _=>hs,fun J=>J=dgt (X6 (Qd vs 1) (Qh hs 0)) (ci (Qd vs 2)).toNat⟩
abbrev F4 (a:QK) (i:Int) (zv:Value) (zs0:Qf):Prop:= ∃J:Int,(J=dgt (X6 (sv a) (ss 3 a)) i.toNat)/\zv=ii J/\zs0=(ss 3 a)/\True
abbrev kU (a:QK) (i:Int) (zF:SF Int):Prop:=zF #[sv a,ii i] [(ss 3 a)] (fun J=>ii J) (fun J=> [(ss 3 a)]) (fun J=>(J=dgt (X6 (sv a) (ss 3 a)) i.toNat))
theorem dA (a:QK) (i:Int):kU a i (fun za zh zv zu zp=>QB Tryz.prog 13 none 2000 none (Qk Tryz.f100) (.reg [S0] (.reg [S0,S0, .eq (Xa),S0] (.cond (.reg [S0,S0, .eq (K7), .specr [0] VD,S0] (.done)) (.reg [S0] (.done)))))
    (Q2 za zh) (Q8 Tryz.prog Tryz.f100 [] [0] (X:=Int) zv zu zp))=
    ((Qg Tryz.prog (vS (Builtin.len_ #[101] 3 #[sv a])) (ii ((vlen (sv a):Nat):Int)))/\((decide (i<((vlen (sv a):Nat):Int)))=true->(Qg Tryz.prog (vS (Instr.indexAt 101 (sv a) (ii i))) (.pointer (some ⟨(QJ (sv a)),(Int.toNat i),none⟩)))/\Za Tryz.prog (vS (Instr.loadAt 3 (.pointer (some ⟨(QJ (sv a)),(Int.toNat i),none⟩)))) [(ss 3 a)] Int (fun J=>ii J) (fun J=>(Qm (ss 3 a))[(Int.toNat i)]? =some (ii J)) (fun x1=>F4 a i (ii x1) (ss 3 a)))/\((decide (i<((vlen (sv a):Nat):Int)))=false->F4 a i (ii 0) (ss 3 a))):=by kernel_rfl
theorem QfU (a:QK) (i:Int) (r_a:Qr a) (hi:0<=i):kU a i (fun za zh zv zu zp=>QC Tryz.prog 100 za zh Int zv zu zp):=by
  refine Qx (c:=Qk Tryz.f100) (n:=13) (fn:=Tryz.f100) QF Tryz.func100 (by kernel_rfl) (by kernel_rfl) (by kernel_rfl) 2000 _ [] [0] rfl rfl (Eq.mpr (dA a i) ?_)
  have d_a:=Zu a 3
  have e_a:=QW a
  refine ⟨JP QP 3 a,⟨fun h1=> ?_,fun h1=> ?_⟩⟩
  · refine ⟨qe QP a .i64 i hi (by rw [←WS];exact of_decide_eq_true ‹_›),Qy (VB (e:=3) a 3 YM (Int.toNat i) r_a (by rw [←QW];have:=of_decide_eq_true ‹_›;omega)) (JM (e:=3) a (Int.toNat i) r_a (by rw [←QW];have:=of_decide_eq_true ‹_›;omega)) fun x1 h2=> ?_⟩
    replace h2:=yX (e:=3) a (Int.toNat i) r_a (by rw [←QW];have:=of_decide_eq_true ‹_›;omega) h2
    exact ⟨_,by rw [d_a];assumption,rfl,rfl,trivial⟩
  exact ⟨0,by rw [d_a];exact (vn (by have:=of_decide_eq_false ‹_›;omega)).symm,rfl,rfl,trivial⟩
abbrev Xn (a:QK) (i:Int) (KK:Int->Prop):Prop:=kU a i (fun za zh zv zu zp=>Zh Tryz.prog 100 za zh Int zv zp KK)
theorem XF (a:QK) (i:Int) {KK:Int->Prop} (kont: ∀J:Int,(J=dgt (dg a) i.toNat)->KK J) (r_a:Qr a:=by first | assumption | exact ZW _ _ (by decide)) (hi:0<=i:=by omega):Xn a i KK:=QN (QfU a i r_a hi) (⟨_,rfl⟩) fun J hz=>by
  simp only [Zu] at hz
  exact kont J hz
def JV:List Value->List Qf->ZB:=fun vs hs=>⟨QK,fun J=>sv J,fun J=> [(ss 3 J)],fun J=>Qr J/\ss 3 J=(Qh hs 0)/\KW (X6 (Qd vs 1) (Qh hs 0)) (dg J)⟩
abbrev wT (a:QK) (zv:Value) (zs0:Qf):Prop:= ∃J:QK,(Qr J/\ss 3 J=(ss 3 a)/\KW (X6 (sv a) (ss 3 a)) (dg J))/\zv=sv J/\zs0=(ss 3 J)/\True
abbrev zM (a:QK) (zF:SF QK):Prop:=zF #[sv a] [(ss 3 a)] (fun J=>sv J) (fun J=> [(ss 3 J)]) (fun J=>(Qr J/\ss 3 J=(ss 3 a)/\KW (X6 (sv a) (ss 3 a)) (dg J)))
theorem BX (a:QK):zM a (fun za zh zv zu zp=>QB Tryz.prog 21 none 2000 none (Qk Tryz.f99) (.reg [S0] (.reg [S0, .eq (Xa),S0] (.inv Nat (fun J=> [(0,sv a),(3,ii (J:Int))]) (fun J=> [(0,(ss 3 a))]) (fun J=>jD (dg a) J) (fun J=>J) (fun x1=> .caseP (fun s=>decide ((ci (s.fr 3))>(0:Int))) (.reg [S0, .gen [] (Sx.one (.bool true)),S0,S0,S0, .gen [] (fun vs=>Sx.one (ii (ci (Qd vs 0) - ci (Qd vs 1))) vs), .eq (K7), .specr [0] VD,S0,S0] (.cond (.reg [S0, .gen [] (fun vs=>Sx.one (ii (ci (Qd vs 0) - ci (Qd vs 1))) vs),S0] (.done)) (.reg [S0,S0, .eq (dT),S0] (.done)))) (.reg [S0, .gen [] (Sx.one (.bool false)),S0, .no, .no, .no, .no, .no, .no,S0] (.condF (.reg [S0,S0, .eq (dT),S0] (.done))))))))
    (Q2 za zh) (Q8 Tryz.prog Tryz.f99 [] [0] (X:=QK) zv zu zp))=
    ((Qg Tryz.prog (vS (Builtin.len_ #[101] 3 #[sv a])) (ii ((vlen (sv a):Nat):Int)))/\(∃J:Nat,(jD (dg a) J)/\sv a=sv a/\ii ((vlen (sv a):Nat):Int)=ii (J:Int)/\(ss 3 a)=(ss 3 a)/\True)/\ ∀x1:Nat,∀jx1:Nat->Value,(jD (dg a) x1)->((decide ((x1:Int)>(0:Int)))=true->gE (.bool (decide ((x1:Int)>(0:Int)))) (.bool true) (true=true/\true=true/\true=true/\gE (ii (IntKind.i64.wrap ((x1:Int) - 1))) (ii ((x1:Int) - 1)) (true=true/\(Qg Tryz.prog (vS (Instr.indexAt 101 (sv a) (ii ((x1:Int) - 1)))) (.pointer (some ⟨(QJ (sv a)),(Int.toNat ((x1:Int) - 1)),none⟩)))/\true=true/\Za Tryz.prog (vS (Instr.loadAt 3 (.pointer (some ⟨(QJ (sv a)),(Int.toNat ((x1:Int) - 1)),none⟩)))) [(ss 3 a)] Int (fun J=>ii J) (fun J=>(Qm (ss 3 a))[(Int.toNat ((x1:Int) - 1))]? =some (ii J)) (fun x2=>true=true/\((x2==(0:Int))=true->gE (ii (IntKind.i64.wrap ((x1:Int) - 1))) (ii ((x1:Int) - 1)) (∃I:Nat,(jD (dg a) I)/\I<x1/\sv a=sv a/\ii ((x1:Int) - 1)=ii (I:Int)/\(ss 3 a)=(ss 3 a)/\True))/\((x2==(0:Int))=false->(Qg Tryz.prog (vS (Instr.sliceAt 101 (sv a) none (some (ii (x1:Int))) none)) ((JN (sv a) (Int.toNat (x1:Int)))))/\wT a ((JN (sv a) (Int.toNat (x1:Int)))) (ss 3 a))))))/\((decide ((x1:Int)>(0:Int)))=false->gE (.bool (decide ((x1:Int)>(0:Int)))) (.bool false) (false= !true/\false= !true/\false= !true/\false= !true/\false= !true/\false= !true/\(false=false)/\(Qg Tryz.prog (vS (Instr.sliceAt 101 (sv a) none (some (ii (x1:Int))) none)) ((JN (sv a) (Int.toNat (x1:Int)))))/\wT a ((JN (sv a) (Int.toNat (x1:Int)))) (ss 3 a)))):=by kernel_rfl
theorem QbG (a : QK) (r_a : Qr a) (hl : (dg a).length <= 1073741824) : zM a (fun za zh zv zu zp => QC Tryz.prog 99 za zh QK zv zu zp) := by
  refine Qx (c:=Qk Tryz.f99) (n:=21) (fn:=Tryz.f99) QF Tryz.func99 (by kernel_rfl) (by kernel_rfl) (by kernel_rfl) 2000 _ [] [0] rfl rfl (Eq.mpr (BX a) ?_)
  have d_a:=Zu a 3
  have e_a:=QW a
  refine ⟨JP QP 3 a,⟨?_,fun x1 jx1 h1=> ?_⟩⟩
  · exact ⟨_,e_a▸Ge _,rfl,rfl,rfl,trivial⟩
  have L:=h1
  have Ll:=L.le
  refine ⟨fun h2=> ?_,fun h2=> ?_⟩
  · refine Ql (congrArg Value.bool h2) ⟨rfl,rfl,rfl,Ql (congrArg (Value.int .i64) (Qz _ (by simp only [X3] at *;omega) (by simp only [X3] at *;omega))) ⟨rfl,qe QP a .i64 ((x1:Int) - 1) (by simp only [X3] at *;omega) (by rw [←ZE];simp only [X3] at *;omega),rfl,Qy (VB (e:=3) a 3 YM (Int.toNat ((x1:Int) - 1)) r_a (by simp only [X3] at *;omega)) (JM (e:=3) a (Int.toNat ((x1:Int) - 1)) r_a (by simp only [X3] at *;omega)) fun x2 h3=> ?_⟩⟩
    replace h3:=yX (e:=3) a (Int.toNat ((x1:Int) - 1)) r_a (by simp only [X3] at *;omega) h3
    refine ⟨rfl,⟨fun h4=> ?_,fun h4=> ?_⟩⟩
    · refine Ql (congrArg (Value.int .i64) (Qz _ (by simp only [X3] at *;omega) (by simp only [X3] at *;omega))) ?_
      have hd:dgt (dg a) (x1 - 1)=0:=by
        simp only [X3] at *
        have e1:Int.toNat ((x1:Int) - 1)=x1 - 1:=by omega
        simp_all
      exact ⟨x1 - 1,Dg L (by simp only [X3] at *;omega) hd,(by simp only [X3] at *;omega),rfl,congrArg (Value.int .i64) (by simp only [X3] at *;omega),rfl,trivial⟩
    refine ⟨QcK QP a .i64 (x1:Int) (by omega) (by rw [←ZE];omega),⟨a.take x1,⟨(r_a.take _).1,zT _ _ _,?_⟩,Hx a _ (by rw [←ZE];exact L.le),(zT _ _ _).symm,trivial⟩⟩
    rw [d_a,(r_a.take _).2]
    refine GH L ?_
    simp only [X3] at *
    first | exact .inl (by omega) | exact .inr (by intro h0;simp_all)
  refine Ql (congrArg Value.bool h2) ⟨rfl,rfl,rfl,rfl,rfl,rfl,⟨rfl,⟨QcK QP a .i64 (x1:Int) (by omega) (by rw [←ZE];omega),⟨a.take x1,⟨(r_a.take _).1,zT _ _ _,?_⟩,Hx a _ (by rw [←ZE];exact L.le),(zT _ _ _).symm,trivial⟩⟩⟩⟩
  rw [d_a,(r_a.take _).2]
  refine GH L ?_
  simp only [X3] at *
  first | exact .inl (by omega) | exact .inr (by intro h0;simp_all)
abbrev Jh (a:QK) (KK:QK->Prop):Prop:=zM a (fun za zh zv zu zp=>Ze Tryz.prog 99 za zh QK zv zu zp KK)
theorem J1 (a:QK) {KK:QK->Prop} (kont: ∀J:QK,Qr J->(ss 3 J=(ss 3 a)/\KW (dg a) (dg J))->KK J) (r_a:Qr a:=by first | assumption | exact ZW _ _ (by decide)) (hl:(dg a).length<=1073741824:=by omega):Jh a KK:=QH (QbG a r_a hl) (Qc8 a (r_a)) fun J hz=>by
  simp only [Zu] at hz
  obtain ⟨rhz_,hz⟩:=hz
  exact kont J rhz_ hz
def Yh:List Value->List Qf->ZB:=fun vs hs=>⟨Int,fun J=>ii J,fun _=>hs,fun J=>J=X7 (nv (X6 (Qd vs 1) (Qh hs 0))) (nv (X6 (Qd vs 2) (Qh hs 1)))⟩
abbrev Yi (a b:QK) (zv:Value) (zs0:Qf) (zs1:Qf):Prop:= ∃J:Int,(J=X7 (nv (X6 (sv a) (ss 3 a))) (nv (X6 (sv b) (ss 3 b))))/\zv=ii J/\zs0=(ss 3 a)/\zs1=(ss 3 b)/\True
abbrev xu (a b:QK) (zF:SF Int):Prop:=zF #[sv a,sv b] [(ss 3 a),(ss 3 b)] (fun J=>ii J) (fun J=> [(ss 3 a),(ss 3 b)]) (fun J=>(J=X7 (nv (X6 (sv a) (ss 3 a))) (nv (X6 (sv b) (ss 3 b)))))
theorem vX (a b:QK):xu a b (fun za zh zv zu zp=>QB Tryz.prog 30 none 2000 none (Qk Tryz.f83) (.reg [S0] (.reg [S0, .eq (Xa),S0, .eq (Xa),S0, .gen [] (fun vs=>Sx.one (ii (ci (Qd vs 0) - ci (Qd vs 1))) vs),S0] (.inv Nat (fun J=> [(0,sv a),(1,sv b),(5,ii ((J:Int) - 1))]) (fun J=> [(0,(ss 3 a)),(1,(ss 3 b))]) (fun J=>WJ (dg a) (dg b) J) (fun J=>J) (fun x1=> .reg [S0,S0] (.cond (.reg [S0,S0, .callr [0] XD,S0,S0, .callr [1] XD,S0] (.cond (.reg [S0] (.done)) (.reg [S0,S0, .callr [0] XD,S0,S0, .callr [1] XD,S0] (.cond (.reg [S0] (.done)) (.reg [S0, .gen [] (fun vs=>Sx.one (ii (ci (Qd vs 0) - ci (Qd vs 1))) vs),S0] (.done)))))) (.reg [S0] (.done)))))))
    (Q2 za zh) (Q8 Tryz.prog Tryz.f83 [] [0,1] (X:=Int) zv zu zp))=
    ((Qg Tryz.prog (vS (Builtin.len_ #[101] 3 #[sv a])) (ii ((vlen (sv a):Nat):Int)))/\(Qg Tryz.prog (vS (Builtin.len_ #[101] 3 #[sv b])) (ii ((vlen (sv b):Nat):Int)))/\gE (ii (IntKind.i64.wrap ((if ((vlen (sv b):Nat):Int)>((vlen (sv a):Nat):Int) then ((vlen (sv b):Nat):Int) else ((vlen (sv a):Nat):Int)) - 1))) (ii ((if ((vlen (sv b):Nat):Int)>((vlen (sv a):Nat):Int) then ((vlen (sv b):Nat):Int) else ((vlen (sv a):Nat):Int)) - 1)) ((∃J:Nat,(WJ (dg a) (dg b) J)/\sv a=sv a/\sv b=sv b/\ii ((if ((vlen (sv b):Nat):Int)>((vlen (sv a):Nat):Int) then ((vlen (sv b):Nat):Int) else ((vlen (sv a):Nat):Int)) - 1)=ii ((J:Int) - 1)/\(ss 3 a)=(ss 3 a)/\(ss 3 b)=(ss 3 b)/\True)/\ ∀x1:Nat,∀jx1:Nat->Value,(WJ (dg a) (dg b) x1)->((decide (((x1:Int) - 1)≥(0:Int)))=true->Xn a ((x1:Int) - 1) (fun x2=>Xn b ((x1:Int) - 1) (fun x3=>((decide (x2<x3))=true->Yi a b (ii (-1)) (ss 3 a) (ss 3 b))/\((decide (x2<x3))=false->Xn a ((x1:Int) - 1) (fun x4=>Xn b ((x1:Int) - 1) (fun x5=>((decide (x4>x5))=true->Yi a b (ii 1) (ss 3 a) (ss 3 b))/\((decide (x4>x5))=false->gE (ii (IntKind.i64.wrap (((x1:Int) - 1) - 1))) (ii (((x1:Int) - 1) - 1)) (∃I:Nat,(WJ (dg a) (dg b) I)/\I<x1/\sv a=sv a/\sv b=sv b/\ii (((x1:Int) - 1) - 1)=ii ((I:Int) - 1)/\(ss 3 a)=(ss 3 a)/\(ss 3 b)=(ss 3 b)/\True))))))))/\((decide (((x1:Int) - 1)≥(0:Int)))=false->Yi a b (ii 0) (ss 3 a) (ss 3 b)))):=by kernel_rfl
theorem QeG (a b : QK) (r_a : Qr a) (r_b : Qr b) (la : (dg a).length <= 65536) (lb : (dg b).length <= 65536) : xu a b (fun za zh zv zu zp => QC Tryz.prog 83 za zh Int zv zu zp) := by
  refine Qx (c:=Qk Tryz.f83) (n:=30) (fn:=Tryz.f83) QF Tryz.func83 (by kernel_rfl) (by kernel_rfl) (by kernel_rfl) 2000 _ [] [0,1] rfl rfl (Eq.mpr (vX a b) ?_)
  have d_a:=Zu a 3
  have d_b:=Zu b 3
  have e_a:=QW a
  have e_b:=QW b
  refine ⟨JP QP 3 a,JP QP 3 b,Ql (congrArg (Value.int .i64) (Qz _ (by rw [e_a,e_b];split<;>omega) (by rw [e_a,e_b];split<;>omega))) ⟨?_,fun x1 jx1 h1=> ?_⟩⟩
  · exact ⟨_,Qbw _ _,rfl,rfl,congrArg (Value.int .i64) (by rw [e_a,e_b];split<;>omega),rfl,rfl,trivial⟩
  have L:=h1
  have Ll:=L.le
  refine ⟨fun h2=> ?_,fun h2=> ?_⟩
  · refine XF a ((x1:Int) - 1) (fun x2 h3=> ?_) (hi:=by simp only [X3] at *;omega)
    refine XF b ((x1:Int) - 1) (fun x3 h4=> ?_) (hi:=by simp only [X3] at *;omega)
    refine ⟨fun h5=> ?_,fun h5=> ?_⟩
    · unfold Yi
      have et:Int.toNat ((x1:Int) - 1)=x1 - 1:=by simp only [X3] at *;omega
      have hd:dgt (dg a) (x1 - 1)<dgt (dg b) (x1 - 1):=by
        simp only [et] at *
        simp only [X3] at *
        omega
      exact ⟨_,by rw [d_a,d_b];exact QfO (Qdo r_a.dig r_b.dig L (by simp only [X3] at *;omega) hd),rfl,rfl,rfl,trivial⟩
    refine XF a ((x1:Int) - 1) (fun x4 h6=> ?_) (hi:=by simp only [X3] at *;omega)
    refine XF b ((x1:Int) - 1) (fun x5 h7=> ?_) (hi:=by simp only [X3] at *;omega)
    refine ⟨fun h8=> ?_,fun h8=> ?_⟩
    · unfold Yi
      have et:Int.toNat ((x1:Int) - 1)=x1 - 1:=by simp only [X3] at *;omega
      have hd:dgt (dg a) (x1 - 1)>dgt (dg b) (x1 - 1):=by
        simp only [et] at *
        simp only [X3] at *
        omega
      exact ⟨_,by rw [d_a,d_b];exact QeN (Qdo r_b.dig r_a.dig L.symm (by simp only [X3] at *;omega) hd),rfl,rfl,rfl,trivial⟩
    refine Ql (congrArg (Value.int .i64) (Qz _ (by simp only [X3] at *;omega) (by simp only [X3] at *;omega))) ?_
    have et:Int.toNat ((x1:Int) - 1)=x1 - 1:=by simp only [X3] at *;omega
    have hd:dgt (dg a) (x1 - 1)=dgt (dg b) (x1 - 1):=by
      simp only [et] at *
      simp only [X3] at *
      omega
    exact ⟨x1 - 1,QcW L (by simp only [X3] at *;omega) hd,(by simp only [X3] at *;omega),rfl,rfl,congrArg (Value.int .i64) (by simp only [X3] at *;omega),rfl,rfl,trivial⟩
  unfold Yi
  have ez:x1=0:=(by simp only [X3] at *;omega)
  rw [ez] at L
  exact ⟨_,by rw [d_a,d_b];exact Qfq (QeM L),rfl,rfl,rfl,trivial⟩
abbrev Kv (a b:QK) (KK:Int->Prop):Prop:=xu a b (fun za zh zv zu zp=>Zh Tryz.prog 83 za zh Int zv zp KK)
theorem Yf (a b:QK) {KK:Int->Prop} (kont: ∀J:Int,(J=X7 (nv (dg a)) (nv (dg b)))->KK J) (r_a:Qr a:=by first | assumption | exact ZW _ _ (by decide)) (r_b:Qr b:=by first | assumption | exact ZW _ _ (by decide)) (la:(dg a).length<=65536:=by omega) (lb:(dg b).length<=65536:=by omega):Kv a b KK:=QN (QeG a b r_a r_b la lb) (⟨_,rfl⟩) fun J hz=>by
  simp only [Zu] at hz
  exact kont J hz
def Yb:List Value->List Qf->ZB:=fun vs hs=>⟨QK,fun J=>sv J,fun J=> [(Qh hs 0),(Qh hs 1),(ss 3 J)],fun J=>Qr J/\nv (dg J)=nv (X6 (Qd vs 1) (Qh hs 0))+nv (X6 (Qd vs 2) (Qh hs 1))/\Zj (dg J)⟩
abbrev HV (a b:QK) (zv:Value) (zs0:Qf) (zs1:Qf) (zs2:Qf):Prop:= ∃J:QK,(Qr J/\nv (dg J)=nv (X6 (sv a) (ss 3 a))+nv (X6 (sv b) (ss 3 b))/\Zj (dg J))/\zv=sv J/\zs0=(ss 3 a)/\zs1=(ss 3 b)/\zs2=(ss 3 J)/\True
abbrev xx (a b:QK) (zF:SF QK):Prop:=zF #[sv a,sv b] [(ss 3 a),(ss 3 b)] (fun J=>sv J) (fun J=> [(ss 3 a),(ss 3 b),(ss 3 J)]) (fun J=>(Qr J/\nv (dg J)=nv (X6 (sv a) (ss 3 a))+nv (X6 (sv b) (ss 3 b))/\Zj (dg J)))
set_option maxHeartbeats 1000000 in
theorem pI (a b:QK):xx a b (fun za zh zv zu zp=>QB Tryz.prog 40 none 2000 none (Qk Tryz.f82) (.reg [S0] (.reg [S0] (.reg [S0] (.reg [S0] (.inv (Nat×Int×QK) (fun J=> [(0,sv a),(1,sv b),(5,sv J.2.2),(6,ii J.2.1),(7,ii (J.1:Int))]) (fun J=> [(0,(ss 3 a)),(1,(ss 3 b)),(20,(ss 3 J.2.2))]) (fun J=>ky (dg a) (dg b) J.1 J.2.1 (dg J.2.2)/\Qr J.2.2) (fun J=>2*((max (dg a).length (dg b).length)+1 - J.1)+J.2.1.toNat) (fun x1=> .caseP (fun s=>decide ((ci (s.fr 7))<(if ((vlen (sv b):Nat):Int)>((vlen (sv a):Nat):Int) then ((vlen (sv b):Nat):Int) else ((vlen (sv a):Nat):Int)))) (.reg [S0,S0, .eq (Xa),S0, .eq (Xa),S0, .gen [] (Sx.one (.bool true)),S0, .no, .no,S0] (.condT (.reg [S0,S0, .callr [0] XD,S0,S0, .callr [1] XD, .gen [] (fun vs=>Sx.one (ii (ci (Qd vs 0)+ci (Qd vs 1))) vs),S0, .gen [] (fun vs=>Sx.one (ii (ci (Qd vs 0)+ci (Qd vs 1))) vs),S0] (.reg [S0,S0, .gen [] (fun vs=>Sx.one (ii (ci (Qd vs 0)%65536)) vs), .sem [.nw 2], .specw [20,2] [20,2] (Ji 3),S0] (.reg [S0, .gen [] (fun vs=>Sx.one (ii (ci (Qd vs 0)/65536)) vs),S0] (.reg [S0, .gen [] (fun vs=>Sx.one (ii (ci (Qd vs 0)+ci (Qd vs 1))) vs),S0] (.done))))))) (.reg [S0,S0, .eq (Xa),S0, .eq (Xa),S0, .gen [] (Sx.one (.bool false)),S0,S0,S0,S0] (.cond (.reg [S0,S0, .callr [0] XD,S0,S0, .callr [1] XD, .gen [] (fun vs=>Sx.one (ii (ci (Qd vs 0)+ci (Qd vs 1))) vs),S0, .gen [] (fun vs=>Sx.one (ii (ci (Qd vs 0)+ci (Qd vs 1))) vs),S0] (.reg [S0,S0, .gen [] (fun vs=>Sx.one (ii (ci (Qd vs 0)%65536)) vs), .sem [.nw 2], .specw [20,2] [20,2] (Ji 3),S0] (.reg [S0, .gen [] (fun vs=>Sx.one (ii (ci (Qd vs 0)/65536)) vs),S0] (.reg [S0, .gen [] (fun vs=>Sx.one (ii (ci (Qd vs 0)+ci (Qd vs 1))) vs),S0] (.done))))) (.reg [S0, .callw [20] [20] JV,S0] (.done))))))))))
    (Q2 za zh) (Q8 Tryz.prog Tryz.f82 [] [0,1,20] (X:=QK) zv zu zp))=
    ((∃J:Nat×Int×QK,(ky (dg a) (dg b) J.1 J.2.1 (dg J.2.2)/\Qr J.2.2)/\sv a=sv a/\sv b=sv b/\Value.slice none 0 0=sv J.2.2/\ii 0=ii J.2.1/\ii 0=ii (J.1:Int)/\(ss 3 a)=(ss 3 a)/\(ss 3 b)=(ss 3 b)/\Qf.free=(ss 3 J.2.2)/\True)/\ ∀x1:Nat×Int×QK,∀jx1:Nat->Value,(ky (dg a) (dg b) x1.1 x1.2.1 (dg x1.2.2)/\Qr x1.2.2)->((decide ((x1.1:Int)<(if ((vlen (sv b):Nat):Int)>((vlen (sv a):Nat):Int) then ((vlen (sv b):Nat):Int) else ((vlen (sv a):Nat):Int))))=true->(Qg Tryz.prog (vS (Builtin.len_ #[101] 3 #[sv a])) (ii ((vlen (sv a):Nat):Int)))/\(Qg Tryz.prog (vS (Builtin.len_ #[101] 3 #[sv b])) (ii ((vlen (sv b):Nat):Int)))/\gE (.bool (decide ((x1.1:Int)<(if ((vlen (sv b):Nat):Int)>((vlen (sv a):Nat):Int) then ((vlen (sv b):Nat):Int) else ((vlen (sv a):Nat):Int))))) (.bool true) (true= !false/\true= !false/\(true=true)/\Xn a (x1.1:Int) (fun x2=>Xn b (x1.1:Int) (fun x3=>gE (ii (IntKind.i64.wrap (x2+x3))) (ii (x2+x3)) (gE (ii (IntKind.i64.wrap ((x2+x3)+x1.2.1))) (ii ((x2+x3)+x1.2.1)) (gE (ii (Int.tmod ((x2+x3)+x1.2.1) 65536)) (ii (((x2+x3)+x1.2.1)%65536)) (∀b4:Nat,Xc Tryz.prog (vS (Builtin.append_ #[101,101] 101 #[sv x1.2.2, .slice (some ⟨b4,0,none⟩) 1 1])) [(ss 3 x1.2.2),bk b4 #[ii (((x2+x3)+x1.2.1)%65536)] 3] QK (fun J=>sv J) (fun J=> [(ss 3 J),bk b4 #[ii (((x2+x3)+x1.2.1)%65536)] 3]) (fun J=>QS J=ZZ (sv x1.2.2) (ss 3 x1.2.2)++ [ii (((x2+x3)+x1.2.1)%65536)]) (fun x5=>gE (ii (IntKind.i64.wrap (Int.tdiv ((x2+x3)+x1.2.1) 65536))) (ii (((x2+x3)+x1.2.1)/65536)) (gE (ii (IntKind.i64.wrap ((x1.1:Int)+1))) (ii ((x1.1:Int)+1)) (∃I:Nat×Int×QK,(ky (dg a) (dg b) I.1 I.2.1 (dg I.2.2)/\Qr I.2.2)/\2*((max (dg a).length (dg b).length)+1 - I.1)+I.2.1.toNat<2*((max (dg a).length (dg b).length)+1 - x1.1)+x1.2.1.toNat/\sv a=sv a/\sv b=sv b/\sv x5=sv I.2.2/\ii (((x2+x3)+x1.2.1)/65536)=ii I.2.1/\ii ((x1.1:Int)+1)=ii (I.1:Int)/\(ss 3 a)=(ss 3 a)/\(ss 3 b)=(ss 3 b)/\(ss 3 x5)=(ss 3 I.2.2)/\True))))))))))/\((decide ((x1.1:Int)<(if ((vlen (sv b):Nat):Int)>((vlen (sv a):Nat):Int) then ((vlen (sv b):Nat):Int) else ((vlen (sv a):Nat):Int))))=false->(Qg Tryz.prog (vS (Builtin.len_ #[101] 3 #[sv a])) (ii ((vlen (sv a):Nat):Int)))/\(Qg Tryz.prog (vS (Builtin.len_ #[101] 3 #[sv b])) (ii ((vlen (sv b):Nat):Int)))/\gE (.bool (decide ((x1.1:Int)<(if ((vlen (sv b):Nat):Int)>((vlen (sv a):Nat):Int) then ((vlen (sv b):Nat):Int) else ((vlen (sv a):Nat):Int))))) (.bool false) (false=false/\false=false/\((decide (x1.2.1>(0:Int)))=true->Xn a (x1.1:Int) (fun x6=>Xn b (x1.1:Int) (fun x7=>gE (ii (IntKind.i64.wrap (x6+x7))) (ii (x6+x7)) (gE (ii (IntKind.i64.wrap ((x6+x7)+x1.2.1))) (ii ((x6+x7)+x1.2.1)) (gE (ii (Int.tmod ((x6+x7)+x1.2.1) 65536)) (ii (((x6+x7)+x1.2.1)%65536)) (∀b8:Nat,Xc Tryz.prog (vS (Builtin.append_ #[101,101] 101 #[sv x1.2.2, .slice (some ⟨b8,0,none⟩) 1 1])) [(ss 3 x1.2.2),bk b8 #[ii (((x6+x7)+x1.2.1)%65536)] 3] QK (fun J=>sv J) (fun J=> [(ss 3 J),bk b8 #[ii (((x6+x7)+x1.2.1)%65536)] 3]) (fun J=>QS J=ZZ (sv x1.2.2) (ss 3 x1.2.2)++ [ii (((x6+x7)+x1.2.1)%65536)]) (fun x9=>gE (ii (IntKind.i64.wrap (Int.tdiv ((x6+x7)+x1.2.1) 65536))) (ii (((x6+x7)+x1.2.1)/65536)) (gE (ii (IntKind.i64.wrap ((x1.1:Int)+1))) (ii ((x1.1:Int)+1)) (∃I:Nat×Int×QK,(ky (dg a) (dg b) I.1 I.2.1 (dg I.2.2)/\Qr I.2.2)/\2*((max (dg a).length (dg b).length)+1 - I.1)+I.2.1.toNat<2*((max (dg a).length (dg b).length)+1 - x1.1)+x1.2.1.toNat/\sv a=sv a/\sv b=sv b/\sv x9=sv I.2.2/\ii (((x6+x7)+x1.2.1)/65536)=ii I.2.1/\ii ((x1.1:Int)+1)=ii (I.1:Int)/\(ss 3 a)=(ss 3 a)/\(ss 3 b)=(ss 3 b)/\(ss 3 x9)=(ss 3 I.2.2)/\True)))))))))/\((decide (x1.2.1>(0:Int)))=false->Jh x1.2.2 (fun x10=>HV a b (sv x10) (ss 3 a) (ss 3 b) (ss 3 x10)))))):=by kernel_rfl
set_option maxHeartbeats 1000000 in
theorem Qes (a b:QK) (r_a:Qr a) (r_b:Qr b) (la:(dg a).length<=65536) (lb:(dg b).length<=65536):xx a b (fun za zh zv zu zp=>QC Tryz.prog 82 za zh QK zv zu zp):=by
  refine Qx (c:=Qk Tryz.f82) (n:=40) (fn:=Tryz.f82) QF Tryz.func82 (by kernel_rfl) (by kernel_rfl) (by kernel_rfl) 2000 _ [] [0,1,20] rfl rfl (Eq.mpr (pI a b) ?_)
  have d_a:=Zu a 3
  have d_b:=Zu b 3
  have e_a:=QW a
  have e_b:=QW b
  have hm:(if (((vlen (sv b):Nat):Int))>(((vlen (sv a):Nat):Int)) then (((vlen (sv b):Nat):Int)) else (((vlen (sv a):Nat):Int)))=(((max (dg a).length (dg b).length):Nat):Int):=by rw [e_a,e_b];split<;>omega
  refine ⟨?_,fun x1 jx1 h1=> ?_⟩
  · exact ⟨(0,0,QK.nil),⟨DB _ _,Qr.nil⟩,rfl,rfl,rfl,rfl,rfl,rfl,rfl,rfl,trivial⟩
  obtain ⟨L,ok⟩:=h1
  have l1:=L.le;have l2:=L.len;have l3:=L.c0;have l4:=L.c1;have l5:=L.ends
  have da:=r_a.dig.dgt (Int.toNat (x1.1:Int))
  have db:=r_b.dig.dgt (Int.toNat (x1.1:Int))
  refine ⟨fun h2=> ?_,fun h2=> ?_⟩
  · refine ⟨JP QP 3 a,JP QP 3 b,Ql (congrArg Value.bool h2) ⟨rfl,rfl,⟨rfl,?_⟩⟩⟩
    try rw [hm] at *
    refine XF a (x1.1:Int) (fun x2 h3=>XF b (x1.1:Int) (fun x3 h4=>Ql (congrArg (Value.int .i64) (Qz _ (by omega) (by omega))) (Ql (congrArg (Value.int .i64) (Qz _ (by omega) (by omega))) (Ql (congrArg (Value.int .i64) (Zt (by omega))) (fun b4=>QG (Zv QP 101 x1.2.2 (by omega) b4 1 (.int .i64 (((x2+x3)+x1.2.1)%65536)) rfl) (ZU _) fun x5 h5=> ?_)))))
    rw [Zd] at h5
    refine Ql (congrArg (Value.int .i64) (kj (by omega) (by omega))) (Ql (congrArg (Value.int .i64) (Qz _ (by omega) (by omega))) ?_)
    have hx:((x2+x3)+x1.2.1)=dgt (dg a) x1.1+dgt (dg b) x1.1+x1.2.1:=by
      simp only [Int.toNat_natCast] at *
      omega
    have hlt:(x1.1<(max (dg a).length (dg b).length))∨0<x1.2.1:=by
      simp only [X3] at *
      omega
    obtain ⟨q1,q2,q3⟩:=yZ r_a.dig r_b.dig L hx hlt
    have q:=Qr.snoc ok q2 q3 ‹_›
    have hmu:=q1.c1
    exact ⟨(x1.1+1,((x2+x3)+x1.2.1)/65536,x5),⟨q.2▸q1,q.1⟩,by dsimp only;omega,rfl,rfl,rfl,rfl,congrArg (Value.int .i64) (by dsimp only;omega),rfl,rfl,rfl,trivial⟩
  refine ⟨JP QP 3 a,JP QP 3 b,Ql (congrArg Value.bool h2) ⟨rfl,rfl,⟨fun h6=> ?_,fun h6=> ?_⟩⟩⟩
  · try rw [hm] at *
    refine XF a (x1.1:Int) (fun x6 h7=>XF b (x1.1:Int) (fun x7 h8=>Ql (congrArg (Value.int .i64) (Qz _ (by omega) (by omega))) (Ql (congrArg (Value.int .i64) (Qz _ (by omega) (by omega))) (Ql (congrArg (Value.int .i64) (Zt (by omega))) (fun b8=>QG (Zv QP 101 x1.2.2 (by omega) b8 1 (.int .i64 (((x6+x7)+x1.2.1)%65536)) rfl) (ZU _) fun x9 h9=> ?_)))))
    rw [Zd] at h9
    refine Ql (congrArg (Value.int .i64) (kj (by omega) (by omega))) (Ql (congrArg (Value.int .i64) (Qz _ (by omega) (by omega))) ?_)
    have hx:((x6+x7)+x1.2.1)=dgt (dg a) x1.1+dgt (dg b) x1.1+x1.2.1:=by
      simp only [Int.toNat_natCast] at *
      omega
    have hlt:(x1.1<(max (dg a).length (dg b).length))∨0<x1.2.1:=by
      simp only [X3] at *
      omega
    obtain ⟨q1,q2,q3⟩:=yZ r_a.dig r_b.dig L hx hlt
    have q:=Qr.snoc ok q2 q3 ‹_›
    have hmu:=q1.c1
    exact ⟨(x1.1+1,((x6+x7)+x1.2.1)/65536,x9),⟨q.2▸q1,q.1⟩,by dsimp only;omega,rfl,rfl,rfl,rfl,congrArg (Value.int .i64) (by dsimp only;omega),rfl,rfl,rfl,trivial⟩
  refine J1 x1.2.2 (fun x10 rh10_ h10=> ?_)
  unfold HV
  have T:KW (dg x1.2.2) (dg x10):=by first | exact And.right ‹_› | assumption
  have hi:(max (dg a).length (dg b).length)<=x1.1:=by
    simp only [X3] at *
    omega
  have hc:x1.2.1<=0:=by
    simp only [X3] at *
    omega
  exact ⟨_,⟨by assumption,by rw [d_a,d_b];exact T.eq.trans (QaR L hi hc),T.canon⟩,rfl,rfl,rfl,rfl,trivial⟩
abbrev Kq (a b:QK) (KK:QK->Prop):Prop:=xx a b (fun za zh zv zu zp=>Ze Tryz.prog 82 za zh QK zv zu zp KK)
theorem Yj (a b:QK) {KK:QK->Prop} (kont: ∀J:QK,Qr J->(nv (dg J)=nv (dg a)+nv (dg b)/\Zj (dg J))->KK J) (r_a:Qr a:=by first | assumption | exact ZW _ _ (by decide)) (r_b:Qr b:=by first | assumption | exact ZW _ _ (by decide)) (la:(dg a).length<=65536:=by omega) (lb:(dg b).length<=65536:=by omega):Kq a b KK:=QH (Qes a b r_a r_b la lb) (VP (by rw [Zu a,Zu b];exact Int.add_nonneg (ZJ (Qr.dig (r_a))) (ZJ (Qr.dig (r_b))))) fun J hz=>by
  simp only [Zu] at hz
  obtain ⟨rhz_,hz⟩:=hz
  exact kont J rhz_ hz
def v8:List Value->List Qf->ZB:=fun vs hs=>⟨QK,fun J=>sv J,fun J=> [(Qh hs 0),(ss 3 J)],fun J=>Qr J/\nv (dg J)=nv (X6 (Qd vs 1) (Qh hs 0))+nv (X6 (Qd vs 1) (Qh hs 0))/\Zj (dg J)⟩
abbrev wN (a:QK) (zv:Value) (zs0:Qf) (zs1:Qf):Prop:= ∃J:QK,(Qr J/\nv (dg J)=nv (X6 (sv a) (ss 3 a))+nv (X6 (sv a) (ss 3 a))/\Zj (dg J))/\zv=sv J/\zs0=(ss 3 a)/\zs1=(ss 3 J)/\True
abbrev w9 (a:QK) (zF:SF QK):Prop:=zF #[sv a,sv a] [(ss 3 a)] (fun J=>sv J) (fun J=> [(ss 3 a),(ss 3 J)]) (fun J=>(Qr J/\nv (dg J)=nv (X6 (sv a) (ss 3 a))+nv (X6 (sv a) (ss 3 a))/\Zj (dg J)))
set_option maxHeartbeats 1000000 in
theorem Bl (a:QK):w9 a (fun za zh zv zu zp=>QB Tryz.prog 40 none 2000 none (Qk Tryz.f82) (.reg [S0] (.reg [S0] (.reg [S0] (.reg [S0] (.inv (Nat×Int×QK) (fun J=> [(0,sv a),(1,sv a),(5,sv J.2.2),(6,ii J.2.1),(7,ii (J.1:Int))]) (fun J=> [(0,(ss 3 a)),(20,(ss 3 J.2.2))]) (fun J=>ky (dg a) (dg a) J.1 J.2.1 (dg J.2.2)/\Qr J.2.2) (fun J=>2*((max (dg a).length (dg a).length)+1 - J.1)+J.2.1.toNat) (fun x1=> .caseP (fun s=>decide ((ci (s.fr 7))<(if ((vlen (sv a):Nat):Int)>((vlen (sv a):Nat):Int) then ((vlen (sv a):Nat):Int) else ((vlen (sv a):Nat):Int)))) (.reg [S0,S0, .eq (Xa),S0, .eq (Xa),S0, .gen [] (Sx.one (.bool true)),S0, .no, .no,S0] (.condT (.reg [S0,S0, .callr [0] XD,S0,S0, .callr [0] XD, .gen [] (fun vs=>Sx.one (ii (ci (Qd vs 0)+ci (Qd vs 1))) vs),S0, .gen [] (fun vs=>Sx.one (ii (ci (Qd vs 0)+ci (Qd vs 1))) vs),S0] (.reg [S0,S0, .gen [] (fun vs=>Sx.one (ii (ci (Qd vs 0)%65536)) vs), .sem [.nw 1], .specw [20,1] [20,1] (Ji 3),S0] (.reg [S0, .gen [] (fun vs=>Sx.one (ii (ci (Qd vs 0)/65536)) vs),S0] (.reg [S0, .gen [] (fun vs=>Sx.one (ii (ci (Qd vs 0)+ci (Qd vs 1))) vs),S0] (.done))))))) (.reg [S0,S0, .eq (Xa),S0, .eq (Xa),S0, .gen [] (Sx.one (.bool false)),S0,S0,S0,S0] (.cond (.reg [S0,S0, .callr [0] XD,S0,S0, .callr [0] XD, .gen [] (fun vs=>Sx.one (ii (ci (Qd vs 0)+ci (Qd vs 1))) vs),S0, .gen [] (fun vs=>Sx.one (ii (ci (Qd vs 0)+ci (Qd vs 1))) vs),S0] (.reg [S0,S0, .gen [] (fun vs=>Sx.one (ii (ci (Qd vs 0)%65536)) vs), .sem [.nw 1], .specw [20,1] [20,1] (Ji 3),S0] (.reg [S0, .gen [] (fun vs=>Sx.one (ii (ci (Qd vs 0)/65536)) vs),S0] (.reg [S0, .gen [] (fun vs=>Sx.one (ii (ci (Qd vs 0)+ci (Qd vs 1))) vs),S0] (.done))))) (.reg [S0, .callw [20] [20] JV,S0] (.done))))))))))
    (Q2 za zh) (Q8 Tryz.prog Tryz.f82 [] [0,20] (X:=QK) zv zu zp))=
    ((∃J:Nat×Int×QK,(ky (dg a) (dg a) J.1 J.2.1 (dg J.2.2)/\Qr J.2.2)/\sv a=sv a/\sv a=sv a/\Value.slice none 0 0=sv J.2.2/\ii 0=ii J.2.1/\ii 0=ii (J.1:Int)/\(ss 3 a)=(ss 3 a)/\Qf.free=(ss 3 J.2.2)/\True)/\ ∀x1:Nat×Int×QK,∀jx1:Nat->Value,(ky (dg a) (dg a) x1.1 x1.2.1 (dg x1.2.2)/\Qr x1.2.2)->((decide ((x1.1:Int)<(if ((vlen (sv a):Nat):Int)>((vlen (sv a):Nat):Int) then ((vlen (sv a):Nat):Int) else ((vlen (sv a):Nat):Int))))=true->(Qg Tryz.prog (vS (Builtin.len_ #[101] 3 #[sv a])) (ii ((vlen (sv a):Nat):Int)))/\(Qg Tryz.prog (vS (Builtin.len_ #[101] 3 #[sv a])) (ii ((vlen (sv a):Nat):Int)))/\gE (.bool (decide ((x1.1:Int)<(if ((vlen (sv a):Nat):Int)>((vlen (sv a):Nat):Int) then ((vlen (sv a):Nat):Int) else ((vlen (sv a):Nat):Int))))) (.bool true) (true= !false/\true= !false/\(true=true)/\Xn a (x1.1:Int) (fun x2=>Xn a (x1.1:Int) (fun x3=>gE (ii (IntKind.i64.wrap (x2+x3))) (ii (x2+x3)) (gE (ii (IntKind.i64.wrap ((x2+x3)+x1.2.1))) (ii ((x2+x3)+x1.2.1)) (gE (ii (Int.tmod ((x2+x3)+x1.2.1) 65536)) (ii (((x2+x3)+x1.2.1)%65536)) (∀b4:Nat,Xc Tryz.prog (vS (Builtin.append_ #[101,101] 101 #[sv x1.2.2, .slice (some ⟨b4,0,none⟩) 1 1])) [(ss 3 x1.2.2),bk b4 #[ii (((x2+x3)+x1.2.1)%65536)] 3] QK (fun J=>sv J) (fun J=> [(ss 3 J),bk b4 #[ii (((x2+x3)+x1.2.1)%65536)] 3]) (fun J=>QS J=ZZ (sv x1.2.2) (ss 3 x1.2.2)++ [ii (((x2+x3)+x1.2.1)%65536)]) (fun x5=>gE (ii (IntKind.i64.wrap (Int.tdiv ((x2+x3)+x1.2.1) 65536))) (ii (((x2+x3)+x1.2.1)/65536)) (gE (ii (IntKind.i64.wrap ((x1.1:Int)+1))) (ii ((x1.1:Int)+1)) (∃I:Nat×Int×QK,(ky (dg a) (dg a) I.1 I.2.1 (dg I.2.2)/\Qr I.2.2)/\2*((max (dg a).length (dg a).length)+1 - I.1)+I.2.1.toNat<2*((max (dg a).length (dg a).length)+1 - x1.1)+x1.2.1.toNat/\sv a=sv a/\sv a=sv a/\sv x5=sv I.2.2/\ii (((x2+x3)+x1.2.1)/65536)=ii I.2.1/\ii ((x1.1:Int)+1)=ii (I.1:Int)/\(ss 3 a)=(ss 3 a)/\(ss 3 x5)=(ss 3 I.2.2)/\True))))))))))/\((decide ((x1.1:Int)<(if ((vlen (sv a):Nat):Int)>((vlen (sv a):Nat):Int) then ((vlen (sv a):Nat):Int) else ((vlen (sv a):Nat):Int))))=false->(Qg Tryz.prog (vS (Builtin.len_ #[101] 3 #[sv a])) (ii ((vlen (sv a):Nat):Int)))/\(Qg Tryz.prog (vS (Builtin.len_ #[101] 3 #[sv a])) (ii ((vlen (sv a):Nat):Int)))/\gE (.bool (decide ((x1.1:Int)<(if ((vlen (sv a):Nat):Int)>((vlen (sv a):Nat):Int) then ((vlen (sv a):Nat):Int) else ((vlen (sv a):Nat):Int))))) (.bool false) (false=false/\false=false/\((decide (x1.2.1>(0:Int)))=true->Xn a (x1.1:Int) (fun x6=>Xn a (x1.1:Int) (fun x7=>gE (ii (IntKind.i64.wrap (x6+x7))) (ii (x6+x7)) (gE (ii (IntKind.i64.wrap ((x6+x7)+x1.2.1))) (ii ((x6+x7)+x1.2.1)) (gE (ii (Int.tmod ((x6+x7)+x1.2.1) 65536)) (ii (((x6+x7)+x1.2.1)%65536)) (∀b8:Nat,Xc Tryz.prog (vS (Builtin.append_ #[101,101] 101 #[sv x1.2.2, .slice (some ⟨b8,0,none⟩) 1 1])) [(ss 3 x1.2.2),bk b8 #[ii (((x6+x7)+x1.2.1)%65536)] 3] QK (fun J=>sv J) (fun J=> [(ss 3 J),bk b8 #[ii (((x6+x7)+x1.2.1)%65536)] 3]) (fun J=>QS J=ZZ (sv x1.2.2) (ss 3 x1.2.2)++ [ii (((x6+x7)+x1.2.1)%65536)]) (fun x9=>gE (ii (IntKind.i64.wrap (Int.tdiv ((x6+x7)+x1.2.1) 65536))) (ii (((x6+x7)+x1.2.1)/65536)) (gE (ii (IntKind.i64.wrap ((x1.1:Int)+1))) (ii ((x1.1:Int)+1)) (∃I:Nat×Int×QK,(ky (dg a) (dg a) I.1 I.2.1 (dg I.2.2)/\Qr I.2.2)/\2*((max (dg a).length (dg a).length)+1 - I.1)+I.2.1.toNat<2*((max (dg a).length (dg a).length)+1 - x1.1)+x1.2.1.toNat/\sv a=sv a/\sv a=sv a/\sv x9=sv I.2.2/\ii (((x6+x7)+x1.2.1)/65536)=ii I.2.1/\ii ((x1.1:Int)+1)=ii (I.1:Int)/\(ss 3 a)=(ss 3 a)/\(ss 3 x9)=(ss 3 I.2.2)/\True)))))))))/\((decide (x1.2.1>(0:Int)))=false->Jh x1.2.2 (fun x10=>wN a (sv x10) (ss 3 a) (ss 3 x10)))))):=by kernel_rfl
set_option maxHeartbeats 1000000 in
theorem QbK (a:QK) (r_a:Qr a) (la:(dg a).length<=65536):w9 a (fun za zh zv zu zp=>QC Tryz.prog 82 za zh QK zv zu zp):=by
  refine Qx (c:=Qk Tryz.f82) (n:=40) (fn:=Tryz.f82) QF Tryz.func82 (by kernel_rfl) (by kernel_rfl) (by kernel_rfl) 2000 _ [] [0,20] rfl rfl (Eq.mpr (Bl a) ?_)
  have d_a:=Zu a 3
  have e_a:=QW a
  have hm:(if (((vlen (sv a):Nat):Int))>(((vlen (sv a):Nat):Int)) then (((vlen (sv a):Nat):Int)) else (((vlen (sv a):Nat):Int)))=(((max (dg a).length (dg a).length):Nat):Int):=by rw [e_a];split<;>omega
  refine ⟨?_,fun x1 jx1 h1=> ?_⟩
  · exact ⟨(0,0,QK.nil),⟨DB _ _,Qr.nil⟩,rfl,rfl,rfl,rfl,rfl,rfl,rfl,trivial⟩
  obtain ⟨L,ok⟩:=h1
  have l1:=L.le;have l2:=L.len;have l3:=L.c0;have l4:=L.c1;have l5:=L.ends
  have da:=r_a.dig.dgt (Int.toNat (x1.1:Int))
  have db:=r_a.dig.dgt (Int.toNat (x1.1:Int))
  refine ⟨fun h2=> ?_,fun h2=> ?_⟩
  · refine ⟨JP QP 3 a,JP QP 3 a,Ql (congrArg Value.bool h2) ⟨rfl,rfl,⟨rfl,?_⟩⟩⟩
    try rw [hm] at *
    refine XF a (x1.1:Int) (fun x2 h3=>XF a (x1.1:Int) (fun x3 h4=>Ql (congrArg (Value.int .i64) (Qz _ (by omega) (by omega))) (Ql (congrArg (Value.int .i64) (Qz _ (by omega) (by omega))) (Ql (congrArg (Value.int .i64) (Zt (by omega))) (fun b4=>QG (Zv QP 101 x1.2.2 (by omega) b4 1 (.int .i64 (((x2+x3)+x1.2.1)%65536)) rfl) (ZU _) fun x5 h5=> ?_)))))
    rw [Zd] at h5
    refine Ql (congrArg (Value.int .i64) (kj (by omega) (by omega))) (Ql (congrArg (Value.int .i64) (Qz _ (by omega) (by omega))) ?_)
    have hx:((x2+x3)+x1.2.1)=dgt (dg a) x1.1+dgt (dg a) x1.1+x1.2.1:=by
      simp only [Int.toNat_natCast] at *
      omega
    have hlt:(x1.1<(max (dg a).length (dg a).length))∨0<x1.2.1:=by
      simp only [X3] at *
      omega
    obtain ⟨q1,q2,q3⟩:=yZ r_a.dig r_a.dig L hx hlt
    have q:=Qr.snoc ok q2 q3 ‹_›
    have hmu:=q1.c1
    exact ⟨(x1.1+1,((x2+x3)+x1.2.1)/65536,x5),⟨q.2▸q1,q.1⟩,by dsimp only;omega,rfl,rfl,rfl,rfl,congrArg (Value.int .i64) (by dsimp only;omega),rfl,rfl,trivial⟩
  refine ⟨JP QP 3 a,JP QP 3 a,Ql (congrArg Value.bool h2) ⟨rfl,rfl,⟨fun h6=> ?_,fun h6=> ?_⟩⟩⟩
  · try rw [hm] at *
    refine XF a (x1.1:Int) (fun x6 h7=>XF a (x1.1:Int) (fun x7 h8=>Ql (congrArg (Value.int .i64) (Qz _ (by omega) (by omega))) (Ql (congrArg (Value.int .i64) (Qz _ (by omega) (by omega))) (Ql (congrArg (Value.int .i64) (Zt (by omega))) (fun b8=>QG (Zv QP 101 x1.2.2 (by omega) b8 1 (.int .i64 (((x6+x7)+x1.2.1)%65536)) rfl) (ZU _) fun x9 h9=> ?_)))))
    rw [Zd] at h9
    refine Ql (congrArg (Value.int .i64) (kj (by omega) (by omega))) (Ql (congrArg (Value.int .i64) (Qz _ (by omega) (by omega))) ?_)
    have hx:((x6+x7)+x1.2.1)=dgt (dg a) x1.1+dgt (dg a) x1.1+x1.2.1:=by
      simp only [Int.toNat_natCast] at *
      omega
    have hlt:(x1.1<(max (dg a).length (dg a).length))∨0<x1.2.1:=by
      simp only [X3] at *
      omega
    obtain ⟨q1,q2,q3⟩:=yZ r_a.dig r_a.dig L hx hlt
    have q:=Qr.snoc ok q2 q3 ‹_›
    have hmu:=q1.c1
    exact ⟨(x1.1+1,((x6+x7)+x1.2.1)/65536,x9),⟨q.2▸q1,q.1⟩,by dsimp only;omega,rfl,rfl,rfl,rfl,congrArg (Value.int .i64) (by dsimp only;omega),rfl,rfl,trivial⟩
  refine J1 x1.2.2 (fun x10 rh10_ h10=> ?_)
  unfold wN
  have T:KW (dg x1.2.2) (dg x10):=by first | exact And.right ‹_› | assumption
  have hi:(max (dg a).length (dg a).length)<=x1.1:=by
    simp only [X3] at *
    omega
  have hc:x1.2.1<=0:=by
    simp only [X3] at *
    omega
  exact ⟨_,⟨by assumption,by rw [d_a];exact T.eq.trans (QaR L hi hc),T.canon⟩,rfl,rfl,rfl,trivial⟩
def xG:List Value->List Qf->ZB:=fun vs hs=>⟨QK,fun J=>sv J,fun J=> [(Qh hs 0),(Qh hs 1),(ss 3 J)],fun J=>Qr J/\nv (dg J)=nv (X6 (Qd vs 1) (Qh hs 0)) - nv (X6 (Qd vs 2) (Qh hs 1))/\Zj (dg J)⟩
abbrev Gd (a b:QK) (zv:Value) (zs0:Qf) (zs1:Qf) (zs2:Qf):Prop:= ∃J:QK,(Qr J/\nv (dg J)=nv (X6 (sv a) (ss 3 a)) - nv (X6 (sv b) (ss 3 b))/\Zj (dg J))/\zv=sv J/\zs0=(ss 3 a)/\zs1=(ss 3 b)/\zs2=(ss 3 J)/\True
abbrev xN (a b:QK) (zF:SF QK):Prop:=zF #[sv a,sv b] [(ss 3 a),(ss 3 b)] (fun J=>sv J) (fun J=> [(ss 3 a),(ss 3 b),(ss 3 J)]) (fun J=>(Qr J/\nv (dg J)=nv (X6 (sv a) (ss 3 a)) - nv (X6 (sv b) (ss 3 b))/\Zj (dg J)))
set_option maxHeartbeats 1000000 in
theorem vM (a b:QK):xN a b (fun za zh zv zu zp=>QB Tryz.prog 35 none 2000 none (Qk Tryz.f84) (.reg [S0] (.reg [S0] (.reg [S0] (.reg [S0] (.inv (Nat×Int×QK) (fun J=> [(0,sv a),(1,sv b),(5,sv J.2.2),(6,ii J.2.1),(7,ii (J.1:Int))]) (fun J=> [(0,(ss 3 a)),(1,(ss 3 b)),(20,(ss 3 J.2.2))]) (fun J=>D4 (dg a) (dg b) J.1 J.2.1 (dg J.2.2)/\Qr J.2.2) (fun J=>(dg a).length - J.1) (fun x1=> .reg [S0,S0, .eq (Xa),S0] (.cond (.reg [S0,S0, .eq (K7), .specr [0] VD,S0,S0, .callr [1] XD, .gen [] (fun vs=>Sx.one (ii (ci (Qd vs 0) - ci (Qd vs 1))) vs),S0, .gen [] (fun vs=>Sx.one (ii (ci (Qd vs 0) - ci (Qd vs 1))) vs),S0] (.reg [S0] (.reg [S0,S0] (.cond (.reg [S0, .gen [] (fun vs=>Sx.one (ii (ci (Qd vs 0)+ci (Qd vs 1))) vs),S0] (.reg [S0] (.reg [S0,S0, .sem [.nw 2], .specw [20,2] [20,2] (Ji 3),S0] (.reg [S0, .gen [] (fun vs=>Sx.one (ii (ci (Qd vs 0)+ci (Qd vs 1))) vs),S0] (.done))))) (.reg [S0,S0, .sem [.nw 2], .specw [20,2] [20,2] (Ji 3),S0] (.reg [S0, .gen [] (fun vs=>Sx.one (ii (ci (Qd vs 0)+ci (Qd vs 1))) vs),S0] (.done))))))) (.reg [S0, .callw [20] [20] JV,S0] (.done)))))))))
    (Q2 za zh) (Q8 Tryz.prog Tryz.f84 [] [0,1,20] (X:=QK) zv zu zp))=
    ((∃J:Nat×Int×QK,(D4 (dg a) (dg b) J.1 J.2.1 (dg J.2.2)/\Qr J.2.2)/\sv a=sv a/\sv b=sv b/\Value.slice none 0 0=sv J.2.2/\ii 0=ii J.2.1/\ii 0=ii (J.1:Int)/\(ss 3 a)=(ss 3 a)/\(ss 3 b)=(ss 3 b)/\Qf.free=(ss 3 J.2.2)/\True)/\ ∀x1:Nat×Int×QK,∀jx1:Nat->Value,(D4 (dg a) (dg b) x1.1 x1.2.1 (dg x1.2.2)/\Qr x1.2.2)->(Qg Tryz.prog (vS (Builtin.len_ #[101] 3 #[sv a])) (ii ((vlen (sv a):Nat):Int)))/\((decide ((x1.1:Int)<((vlen (sv a):Nat):Int)))=true->(Qg Tryz.prog (vS (Instr.indexAt 101 (sv a) (ii (x1.1:Int)))) (.pointer (some ⟨(QJ (sv a)),(Int.toNat (x1.1:Int)),none⟩)))/\Za Tryz.prog (vS (Instr.loadAt 3 (.pointer (some ⟨(QJ (sv a)),(Int.toNat (x1.1:Int)),none⟩)))) [(ss 3 a)] Int (fun J=>ii J) (fun J=>(Qm (ss 3 a))[(Int.toNat (x1.1:Int))]? =some (ii J)) (fun x2=>Xn b (x1.1:Int) (fun x3=>gE (ii (IntKind.i64.wrap (x2 - x3))) (ii (x2 - x3)) (gE (ii (IntKind.i64.wrap ((x2 - x3) - x1.2.1))) (ii ((x2 - x3) - x1.2.1)) (((decide (((x2 - x3) - x1.2.1)<(0:Int)))=true->gE (ii (IntKind.i64.wrap (((x2 - x3) - x1.2.1)+65536))) (ii (((x2 - x3) - x1.2.1)+65536)) (∀b4:Nat,Xc Tryz.prog (vS (Builtin.append_ #[101,101] 101 #[sv x1.2.2, .slice (some ⟨b4,0,none⟩) 1 1])) [(ss 3 x1.2.2),bk b4 #[ii (((x2 - x3) - x1.2.1)+65536)] 3] QK (fun J=>sv J) (fun J=> [(ss 3 J),bk b4 #[ii (((x2 - x3) - x1.2.1)+65536)] 3]) (fun J=>QS J=ZZ (sv x1.2.2) (ss 3 x1.2.2)++ [ii (((x2 - x3) - x1.2.1)+65536)]) (fun x5=>gE (ii (IntKind.i64.wrap ((x1.1:Int)+1))) (ii ((x1.1:Int)+1)) (∃I:Nat×Int×QK,(D4 (dg a) (dg b) I.1 I.2.1 (dg I.2.2)/\Qr I.2.2)/\(dg a).length - I.1<(dg a).length - x1.1/\sv a=sv a/\sv b=sv b/\sv x5=sv I.2.2/\ii 1=ii I.2.1/\ii ((x1.1:Int)+1)=ii (I.1:Int)/\(ss 3 a)=(ss 3 a)/\(ss 3 b)=(ss 3 b)/\(ss 3 x5)=(ss 3 I.2.2)/\True))))/\((decide (((x2 - x3) - x1.2.1)<(0:Int)))=false-> ∀b6:Nat,Xc Tryz.prog (vS (Builtin.append_ #[101,101] 101 #[sv x1.2.2, .slice (some ⟨b6,0,none⟩) 1 1])) [(ss 3 x1.2.2),bk b6 #[ii ((x2 - x3) - x1.2.1)] 3] QK (fun J=>sv J) (fun J=> [(ss 3 J),bk b6 #[ii ((x2 - x3) - x1.2.1)] 3]) (fun J=>QS J=ZZ (sv x1.2.2) (ss 3 x1.2.2)++ [ii ((x2 - x3) - x1.2.1)]) (fun x7=>gE (ii (IntKind.i64.wrap ((x1.1:Int)+1))) (ii ((x1.1:Int)+1)) (∃I:Nat×Int×QK,(D4 (dg a) (dg b) I.1 I.2.1 (dg I.2.2)/\Qr I.2.2)/\(dg a).length - I.1<(dg a).length - x1.1/\sv a=sv a/\sv b=sv b/\sv x7=sv I.2.2/\ii 0=ii I.2.1/\ii ((x1.1:Int)+1)=ii (I.1:Int)/\(ss 3 a)=(ss 3 a)/\(ss 3 b)=(ss 3 b)/\(ss 3 x7)=(ss 3 I.2.2)/\True))))))))/\((decide ((x1.1:Int)<((vlen (sv a):Nat):Int)))=false->Jh x1.2.2 (fun x8=>Gd a b (sv x8) (ss 3 a) (ss 3 b) (ss 3 x8)))):=by kernel_rfl
set_option maxHeartbeats 1000000 in
theorem Qds (a b:QK) (r_a:Qr a) (r_b:Qr b) (la:(dg a).length<=65536) (lb:(dg b).length<=65536) (hle:nv (dg b)<=nv (dg a)):xN a b (fun za zh zv zu zp=>QC Tryz.prog 84 za zh QK zv zu zp):=by
  refine Qx (c:=Qk Tryz.f84) (n:=35) (fn:=Tryz.f84) QF Tryz.func84 (by kernel_rfl) (by kernel_rfl) (by kernel_rfl) 2000 _ [] [0,1,20] rfl rfl (Eq.mpr (vM a b) ?_)
  have d_a:=Zu a 3
  have d_b:=Zu b 3
  have e_a:=QW a
  have e_b:=QW b
  refine ⟨?_,fun x1 jx1 h1=> ?_⟩
  · exact ⟨(0,0,QK.nil),⟨Qb3 _ _,Qr.nil⟩,rfl,rfl,rfl,rfl,rfl,rfl,rfl,rfl,trivial⟩
  obtain ⟨L,ok⟩:=h1
  have l1:=L.le;have l2:=L.len;have l3:=L.c0;have l4:=L.c1
  have da:=r_a.dig.dgt (Int.toNat (x1.1:Int))
  have db:=r_b.dig.dgt (Int.toNat (x1.1:Int))
  refine ⟨JP QP 3 a,⟨fun h2=> ?_,fun h2=> ?_⟩⟩
  · refine ⟨qe QP a .i64 (x1.1:Int) (by omega) (by rw [←ZE];simp only [X3] at *;omega),Qy (VB (e:=3) a 3 YM (Int.toNat (x1.1:Int)) r_a (by simp only [X3] at *;omega)) (JM (e:=3) a (Int.toNat (x1.1:Int)) r_a (by simp only [X3] at *;omega)) fun x2 h3=> ?_⟩
    replace h3:=yX (e:=3) a (Int.toNat (x1.1:Int)) r_a (by simp only [X3] at *;omega) h3
    refine XF b (x1.1:Int) (fun x3 h4=>Ql (congrArg (Value.int .i64) (Qz _ (by omega) (by omega))) (Ql (congrArg (Value.int .i64) (Qz _ (by omega) (by omega))) ⟨fun h5=> ?_,fun h5=> ?_⟩))
    · refine Ql (congrArg (Value.int .i64) (Qz _ (by omega) (by omega))) (fun b4=>QG (Zv QP 101 x1.2.2 (by omega) b4 1 (.int .i64 (((x2 - x3) - x1.2.1)+65536)) rfl) (ZU _) fun x5 h6=> ?_)
      rw [Zd] at h6
      refine Ql (congrArg (Value.int .i64) (Qz _ (by omega) (by omega))) ?_
      have q1:=QdI (x:=(((x2 - x3) - x1.2.1)+65536)) (c' :=1) r_a.dig r_b.dig L (by simp only [X3] at *;omega) (by simp only [Int.toNat_natCast] at *;simp only [X3] at *;omega) (by simp only [X3] at *;omega) (by simp only [X3] at *;omega) (by decide) (by decide)
      have q:=Qr.snoc ok (x:=(((x2 - x3) - x1.2.1)+65536)) (by simp only [X3] at *;omega) (by simp only [X3] at *;omega) ‹_›
      exact ⟨(x1.1+1,1,x5),⟨q.2▸q1,q.1⟩,by dsimp only;simp only [X3] at *;omega,rfl,rfl,rfl,rfl,congrArg (Value.int .i64) (by dsimp only;omega),rfl,rfl,rfl,trivial⟩
    intro b6
    refine QG (Zv QP 101 x1.2.2 (by omega) b6 1 (.int .i64 ((x2 - x3) - x1.2.1)) rfl) (ZU _) fun x7 h7=> ?_
    rw [Zd] at h7
    refine Ql (congrArg (Value.int .i64) (Qz _ (by omega) (by omega))) ?_
    have q1:=QdI (x:=((x2 - x3) - x1.2.1)) (c' :=0) r_a.dig r_b.dig L (by simp only [X3] at *;omega) (by simp only [Int.toNat_natCast] at *;simp only [X3] at *;omega) (by simp only [X3] at *;omega) (by simp only [X3] at *;omega) (by decide) (by decide)
    have q:=Qr.snoc ok (x:=((x2 - x3) - x1.2.1)) (by simp only [X3] at *;omega) (by simp only [X3] at *;omega) ‹_›
    exact ⟨(x1.1+1,0,x7),⟨q.2▸q1,q.1⟩,by dsimp only;simp only [X3] at *;omega,rfl,rfl,rfl,rfl,congrArg (Value.int .i64) (by dsimp only;omega),rfl,rfl,rfl,trivial⟩
  refine J1 x1.2.2 (fun x8 rh8_ h8=> ?_)
  unfold Gd
  have T:KW (dg x1.2.2) (dg x8):=by first | exact And.right ‹_› | assumption
  have hi:x1.1=(dg a).length:=by
    simp only [X3] at *
    omega
  rw [hi] at L
  exact ⟨_,⟨by assumption,by rw [d_a,d_b];exact T.eq.trans (Qfa r_a.dig r_b.dig ok.dig L hle),T.canon⟩,rfl,rfl,rfl,rfl,trivial⟩
abbrev Uo (a b:QK) (KK:QK->Prop):Prop:=xN a b (fun za zh zv zu zp=>Ze Tryz.prog 84 za zh QK zv zu zp KK)
theorem jR (a b:QK) {KK:QK->Prop} (kont: ∀J:QK,Qr J->(nv (dg J)=nv (dg a) - nv (dg b)/\Zj (dg J))->KK J) (r_a:Qr a:=by first | assumption | exact ZW _ _ (by decide)) (r_b:Qr b:=by first | assumption | exact ZW _ _ (by decide)) (la:(dg a).length<=65536:=by omega) (lb:(dg b).length<=65536:=by omega) (hle:nv (dg b)<=nv (dg a):=by omega):Uo a b KK:=QH (Qds a b r_a r_b la lb hle) (VP (by rw [Zu a,Zu b];omega)) fun J hz=>by
  simp only [Zu] at hz
  obtain ⟨rhz_,hz⟩:=hz
  exact kont J rhz_ hz
def xM:List Value->List Qf->ZB:=fun vs hs=>⟨QK,fun J=>sv J,fun J=> [(Qh hs 0),(Qh hs 1),(ss 3 J)],fun J=>Qr J/\nv (dg J)=nv (X6 (Qd vs 1) (Qh hs 0))*nv (X6 (Qd vs 2) (Qh hs 1))/\Zj (dg J)⟩
abbrev Gv (a b:QK) (zv:Value) (zs0:Qf) (zs1:Qf) (zs2:Qf):Prop:= ∃J:QK,(Qr J/\nv (dg J)=nv (X6 (sv a) (ss 3 a))*nv (X6 (sv b) (ss 3 b))/\Zj (dg J))/\zv=sv J/\zs0=(ss 3 a)/\zs1=(ss 3 b)/\zs2=(ss 3 J)/\True
abbrev xo (a b:QK) (zF:SF QK):Prop:=zF #[sv a,sv b] [(ss 3 a),(ss 3 b)] (fun J=>sv J) (fun J=> [(ss 3 a),(ss 3 b),(ss 3 J)]) (fun J=>(Qr J/\nv (dg J)=nv (X6 (sv a) (ss 3 a))*nv (X6 (sv b) (ss 3 b))/\Zj (dg J)))
set_option maxHeartbeats 2000000 in
theorem du (a b:QK):xo a b (fun za zh zv zu zp=>QB Tryz.prog 72 none 2000 none (Qk Tryz.f79) (.reg [S0] (.reg [S0, .eq (Xa),S0, .eq (Xa), .gen [] (fun vs=>Sx.one (ii (ci (Qd vs 0)+ci (Qd vs 1))) vs), .specw [] [20] (Qc0 3 (ii 0)),S0] (.reg [S0, .eq (Xa),S0] (.inv (Nat×QK) (fun J=> [(0,sv a),(1,sv b),(5,sv J.2),(17,ii ((vlen (sv a):Nat):Int)),(18,ii (J.1:Int))]) (fun J=> [(0,(ss 3 a)),(1,(ss 3 b)),(20,(ss 3 J.2))]) (fun J=>gT (dg a) (dg b) J.1 (dg J.2)/\Qr J.2) (fun J=>(dg a).length - J.1) (fun x2=> .reg [S0] (.cond (.reg [S0,S0] (.reg [S0] (.reg [S0, .eq (Xa),S0] (.inv (Nat×Int×QK) (fun J=> [(0,sv a),(1,sv b),(5,sv J.2.2),(6,ii (x2.1:Int)),(7,ii J.2.1),(22,ii ((vlen (sv b):Nat):Int)),(23,ii (J.1:Int)),(17,ii ((vlen (sv a):Nat):Int)),(18,ii (x2.1:Int))]) (fun J=> [(0,(ss 3 a)),(1,(ss 3 b)),(20,(ss 3 J.2.2))]) (fun J=>pJ (dg a) (dg b) x2.1 J.1 J.2.1 (dg J.2.2)/\Qr J.2.2) (fun J=>(dg b).length - J.1) (fun x3=> .reg [S0] (.cond (.reg [S0,S0] (.reg [S0,S0,S0, .gen [] (fun vs=>Sx.one (ii (ci (Qd vs 0)+ci (Qd vs 1))) vs), .eq (K7), .specr [20] VD,S0,S0, .eq (K7), .specr [0] VD,S0,S0, .eq (K7), .specr [1] VD, .gen [] (fun vs=>Sx.one (ii (ci (Qd vs 0)*ci (Qd vs 1))) vs), .gen [] (fun vs=>Sx.one (ii (ci (Qd vs 0)+ci (Qd vs 1))) vs),S0, .gen [] (fun vs=>Sx.one (ii (ci (Qd vs 0)+ci (Qd vs 1))) vs),S0] (.reg [S0,S0,S0, .gen [] (fun vs=>Sx.one (ii (ci (Qd vs 0)+ci (Qd vs 1))) vs),S0, .gen [] (fun vs=>Sx.one (ii (ci (Qd vs 0)%65536)) vs), .eq (K7), .specw [20] [20] wS] (.reg [S0, .gen [] (fun vs=>Sx.one (ii (ci (Qd vs 0)/65536)) vs),S0] (.reg [.gen [] (fun vs=>Sx.one (ii (ci (Qd vs 0)+ci (Qd vs 1))) vs),S0] (.done)))))) (.reg [S0,S0,S0, .eq (Xa), .gen [] (fun vs=>Sx.one (ii (ci (Qd vs 0)+ci (Qd vs 1))) vs),S0,S0,S0, .eq (Xa), .gen [] (fun vs=>Sx.one (ii (ci (Qd vs 0)+ci (Qd vs 1))) vs), .eq (K7), .specr [20] VD,S0, .gen [] (fun vs=>Sx.one (ii (ci (Qd vs 0)+ci (Qd vs 1))) vs), .eq (K7), .specw [20] [20] wS] (.reg [.gen [] (fun vs=>Sx.one (ii (ci (Qd vs 0)+ci (Qd vs 1))) vs),S0] (.done))))))))) (.reg [S0, .callw [20] [20] JV,S0] (.done))))))))
    (Q2 za zh) (Q8 Tryz.prog Tryz.f79 [] [0,1,20] (X:=QK) zv zu zp))=
    ((Qg Tryz.prog (vS (Builtin.len_ #[101] 3 #[sv a])) (ii ((vlen (sv a):Nat):Int)))/\(Qg Tryz.prog (vS (Builtin.len_ #[101] 3 #[sv b])) (ii ((vlen (sv b):Nat):Int)))/\gE (ii (IntKind.i64.wrap (((vlen (sv a):Nat):Int)+((vlen (sv b):Nat):Int)))) (ii (((vlen (sv a):Nat):Int)+((vlen (sv b):Nat):Int))) (Xc Tryz.prog (vS (Instr.makeSlice 101 (ii (((vlen (sv a):Nat):Int)+((vlen (sv b):Nat):Int))) (ii (((vlen (sv a):Nat):Int)+((vlen (sv b):Nat):Int))))) [] QK (fun J=>sv J) (fun J=> [(ss 3 J)]) (fun J=>QS J=List.replicate (Int.toNat (((vlen (sv a):Nat):Int)+((vlen (sv b):Nat):Int))) (ii 0)) (fun x1=>(Qg Tryz.prog (vS (Builtin.len_ #[101] 3 #[sv a])) (ii ((vlen (sv a):Nat):Int)))/\(∃J:Nat×QK,(gT (dg a) (dg b) J.1 (dg J.2)/\Qr J.2)/\sv a=sv a/\sv b=sv b/\sv x1=sv J.2/\ii ((vlen (sv a):Nat):Int)=ii ((vlen (sv a):Nat):Int)/\ii 0=ii (J.1:Int)/\(ss 3 a)=(ss 3 a)/\(ss 3 b)=(ss 3 b)/\(ss 3 x1)=(ss 3 J.2)/\True)/\ ∀x2:Nat×QK,∀jx2:Nat->Value,(gT (dg a) (dg b) x2.1 (dg x2.2)/\Qr x2.2)->((decide ((x2.1:Int)<((vlen (sv a):Nat):Int)))=true->(Qg Tryz.prog (vS (Builtin.len_ #[101] 3 #[sv b])) (ii ((vlen (sv b):Nat):Int)))/\(∃J:Nat×Int×QK,(pJ (dg a) (dg b) x2.1 J.1 J.2.1 (dg J.2.2)/\Qr J.2.2)/\sv a=sv a/\sv b=sv b/\sv x2.2=sv J.2.2/\ii (x2.1:Int)=ii (x2.1:Int)/\ii 0=ii J.2.1/\ii ((vlen (sv b):Nat):Int)=ii ((vlen (sv b):Nat):Int)/\ii 0=ii (J.1:Int)/\ii ((vlen (sv a):Nat):Int)=ii ((vlen (sv a):Nat):Int)/\ii (x2.1:Int)=ii (x2.1:Int)/\(ss 3 a)=(ss 3 a)/\(ss 3 b)=(ss 3 b)/\(ss 3 x2.2)=(ss 3 J.2.2)/\True)/\ ∀x3:Nat×Int×QK,∀jx3:Nat->Value,(pJ (dg a) (dg b) x2.1 x3.1 x3.2.1 (dg x3.2.2)/\Qr x3.2.2)->((decide ((x3.1:Int)<((vlen (sv b):Nat):Int)))=true->gE (ii (IntKind.i64.wrap ((x2.1:Int)+(x3.1:Int)))) (ii ((x2.1:Int)+(x3.1:Int))) ((Qg Tryz.prog (vS (Instr.indexAt 101 (sv x3.2.2) (ii ((x2.1:Int)+(x3.1:Int))))) (.pointer (some ⟨(QJ (sv x3.2.2)),(Int.toNat ((x2.1:Int)+(x3.1:Int))),none⟩)))/\Za Tryz.prog (vS (Instr.loadAt 3 (.pointer (some ⟨(QJ (sv x3.2.2)),(Int.toNat ((x2.1:Int)+(x3.1:Int))),none⟩)))) [(ss 3 x3.2.2)] Int (fun J=>ii J) (fun J=>(Qm (ss 3 x3.2.2))[(Int.toNat ((x2.1:Int)+(x3.1:Int)))]? =some (ii J)) (fun x4=>(Qg Tryz.prog (vS (Instr.indexAt 101 (sv a) (ii (x2.1:Int)))) (.pointer (some ⟨(QJ (sv a)),(Int.toNat (x2.1:Int)),none⟩)))/\Za Tryz.prog (vS (Instr.loadAt 3 (.pointer (some ⟨(QJ (sv a)),(Int.toNat (x2.1:Int)),none⟩)))) [(ss 3 a)] Int (fun J=>ii J) (fun J=>(Qm (ss 3 a))[(Int.toNat (x2.1:Int))]? =some (ii J)) (fun x5=>(Qg Tryz.prog (vS (Instr.indexAt 101 (sv b) (ii (x3.1:Int)))) (.pointer (some ⟨(QJ (sv b)),(Int.toNat (x3.1:Int)),none⟩)))/\Za Tryz.prog (vS (Instr.loadAt 3 (.pointer (some ⟨(QJ (sv b)),(Int.toNat (x3.1:Int)),none⟩)))) [(ss 3 b)] Int (fun J=>ii J) (fun J=>(Qm (ss 3 b))[(Int.toNat (x3.1:Int))]? =some (ii J)) (fun x6=>gE (ii (IntKind.i64.wrap (x5*x6))) (ii (x5*x6)) (gE (ii (IntKind.i64.wrap (x4+(x5*x6)))) (ii (x4+(x5*x6))) (gE (ii (IntKind.i64.wrap ((x4+(x5*x6))+x3.2.1))) (ii ((x4+(x5*x6))+x3.2.1)) (gE (ii (IntKind.i64.wrap ((x2.1:Int)+(x3.1:Int)))) (ii ((x2.1:Int)+(x3.1:Int))) (gE (ii (Int.tmod ((x4+(x5*x6))+x3.2.1) 65536)) (ii (((x4+(x5*x6))+x3.2.1)%65536)) ((Qg Tryz.prog (vS (Instr.indexAt 101 (sv x3.2.2) (ii ((x2.1:Int)+(x3.1:Int))))) (.pointer (some ⟨(QJ (sv x3.2.2)),(Int.toNat ((x2.1:Int)+(x3.1:Int))),none⟩)))/\Xc Tryz.prog (KJ (Instr.storeAt 3 (.pointer (some ⟨(QJ (sv x3.2.2)),(Int.toNat ((x2.1:Int)+(x3.1:Int))),none⟩)) (ii (((x4+(x5*x6))+x3.2.1)%65536)))) [(ss 3 x3.2.2)] Unit (fun _=> .tuple #[]) (fun _=> [(Wl (ss 3 x3.2.2) (Int.toNat ((x2.1:Int)+(x3.1:Int))) (ii (((x4+(x5*x6))+x3.2.1)%65536)))]) (fun _=>True) (fun _=>gE (ii (IntKind.i64.wrap (Int.tdiv ((x4+(x5*x6))+x3.2.1) 65536))) (ii (((x4+(x5*x6))+x3.2.1)/65536)) (gE (ii (IntKind.i64.wrap ((x3.1:Int)+1))) (ii ((x3.1:Int)+1)) (∃I:Nat×Int×QK,(pJ (dg a) (dg b) x2.1 I.1 I.2.1 (dg I.2.2)/\Qr I.2.2)/\(dg b).length - I.1<(dg b).length - x3.1/\sv a=sv a/\sv b=sv b/\sv x3.2.2=sv I.2.2/\ii (x2.1:Int)=ii (x2.1:Int)/\ii (((x4+(x5*x6))+x3.2.1)/65536)=ii I.2.1/\ii ((vlen (sv b):Nat):Int)=ii ((vlen (sv b):Nat):Int)/\ii ((x3.1:Int)+1)=ii (I.1:Int)/\ii ((vlen (sv a):Nat):Int)=ii ((vlen (sv a):Nat):Int)/\ii (x2.1:Int)=ii (x2.1:Int)/\(ss 3 a)=(ss 3 a)/\(ss 3 b)=(ss 3 b)/\(Wl (ss 3 x3.2.2) (Int.toNat ((x2.1:Int)+(x3.1:Int))) (ii (((x4+(x5*x6))+x3.2.1)%65536)))=(ss 3 I.2.2)/\True)))))))))))))/\((decide ((x3.1:Int)<((vlen (sv b):Nat):Int)))=false->(Qg Tryz.prog (vS (Builtin.len_ #[101] 3 #[sv b])) (ii ((vlen (sv b):Nat):Int)))/\gE (ii (IntKind.i64.wrap ((x2.1:Int)+((vlen (sv b):Nat):Int)))) (ii ((x2.1:Int)+((vlen (sv b):Nat):Int))) ((Qg Tryz.prog (vS (Builtin.len_ #[101] 3 #[sv b])) (ii ((vlen (sv b):Nat):Int)))/\gE (ii (IntKind.i64.wrap ((x2.1:Int)+((vlen (sv b):Nat):Int)))) (ii ((x2.1:Int)+((vlen (sv b):Nat):Int))) ((Qg Tryz.prog (vS (Instr.indexAt 101 (sv x3.2.2) (ii ((x2.1:Int)+((vlen (sv b):Nat):Int))))) (.pointer (some ⟨(QJ (sv x3.2.2)),(Int.toNat ((x2.1:Int)+((vlen (sv b):Nat):Int))),none⟩)))/\Za Tryz.prog (vS (Instr.loadAt 3 (.pointer (some ⟨(QJ (sv x3.2.2)),(Int.toNat ((x2.1:Int)+((vlen (sv b):Nat):Int))),none⟩)))) [(ss 3 x3.2.2)] Int (fun J=>ii J) (fun J=>(Qm (ss 3 x3.2.2))[(Int.toNat ((x2.1:Int)+((vlen (sv b):Nat):Int)))]? =some (ii J)) (fun x7=>gE (ii (IntKind.i64.wrap (x7+x3.2.1))) (ii (x7+x3.2.1)) ((Qg Tryz.prog (vS (Instr.indexAt 101 (sv x3.2.2) (ii ((x2.1:Int)+((vlen (sv b):Nat):Int))))) (.pointer (some ⟨(QJ (sv x3.2.2)),(Int.toNat ((x2.1:Int)+((vlen (sv b):Nat):Int))),none⟩)))/\Xc Tryz.prog (KJ (Instr.storeAt 3 (.pointer (some ⟨(QJ (sv x3.2.2)),(Int.toNat ((x2.1:Int)+((vlen (sv b):Nat):Int))),none⟩)) (ii (x7+x3.2.1)))) [(ss 3 x3.2.2)] Unit (fun _=> .tuple #[]) (fun _=> [(Wl (ss 3 x3.2.2) (Int.toNat ((x2.1:Int)+((vlen (sv b):Nat):Int))) (ii (x7+x3.2.1)))]) (fun _=>True) (fun _=>gE (ii (IntKind.i64.wrap ((x2.1:Int)+1))) (ii ((x2.1:Int)+1)) (∃I:Nat×QK,(gT (dg a) (dg b) I.1 (dg I.2)/\Qr I.2)/\(dg a).length - I.1<(dg a).length - x2.1/\sv a=sv a/\sv b=sv b/\sv x3.2.2=sv I.2/\ii ((vlen (sv a):Nat):Int)=ii ((vlen (sv a):Nat):Int)/\ii ((x2.1:Int)+1)=ii (I.1:Int)/\(ss 3 a)=(ss 3 a)/\(ss 3 b)=(ss 3 b)/\(Wl (ss 3 x3.2.2) (Int.toNat ((x2.1:Int)+((vlen (sv b):Nat):Int))) (ii (x7+x3.2.1)))=(ss 3 I.2)/\True))))))))/\((decide ((x2.1:Int)<((vlen (sv a):Nat):Int)))=false->Jh x2.2 (fun x8=>Gv a b (sv x8) (ss 3 a) (ss 3 b) (ss 3 x8)))))):=by kernel_rfl
set_option maxHeartbeats 2000000 in
theorem Qc3 (a b : QK) (r_a : Qr a) (r_b : Qr b) (la : (dg a).length <= 65536) (lb : (dg b).length <= 65536) : xo a b (fun za zh zv zu zp => QC Tryz.prog 79 za zh QK zv zu zp) := by
  refine Qx (c:=Qk Tryz.f79) (n:=72) (fn:=Tryz.f79) QF Tryz.func79 (by kernel_rfl) (by kernel_rfl) (by kernel_rfl) 2000 _ [] [0,1,20] rfl rfl (Eq.mpr (du a b) ?_)
  have d_a:=Zu a 3
  have d_b:=Zu b 3
  have e_a:=QW a
  have e_b:=QW b
  refine ⟨JP QP 3 a,JP QP 3 b,Ql (congrArg (Value.int .i64) (Qz _ (by omega) (by omega))) (QG (QfY QP .i64 (((vlen (sv a):Nat):Int)+((vlen (sv b):Nat):Int)) (by omega) (by omega)) (gg (e:=3) _ _) fun x1 h1=>⟨JP QP 3 a,⟨?_,fun x2 jx2 h2=> ?_⟩⟩)⟩
  · have q:=Qr.zeros (y:=x1) ‹_›
    exact ⟨(0,x1),⟨by rw [q.2];exact Qb2 _ _ _ (by omega),q.1⟩,rfl,rfl,rfl,rfl,rfl,rfl,rfl,rfl,trivial⟩
  obtain ⟨L,ok⟩:=h2
  have l1:=L.le;have l2:=L.len
  have da:=r_a.dig.dgt (Int.toNat (x2.1:Int))
  refine ⟨fun h3=> ?_,fun h3=> ?_⟩
  · have hi:x2.1<(dg a).length:=by
      simp only [X3] at *
      omega
    refine ⟨JP QP 3 b,⟨?_,fun x3 jx3 h4=> ?_⟩⟩
    · exact ⟨(0,0,x2.2),⟨dB L,ok⟩,rfl,rfl,rfl,rfl,rfl,rfl,rfl,rfl,rfl,rfl,rfl,rfl,trivial⟩
    obtain ⟨M,okn⟩:=h4
    have m1:=M.le;have m2:=M.len;have m3:=M.c0;have m4:=M.c1
    have db:=r_b.dig.dgt (Int.toNat (x3.1:Int))
    have dn:=okn.dig.dgt (Int.toNat ((x2.1:Int)+(x3.1:Int)))
    refine ⟨fun h5=> ?_,fun h5=> ?_⟩
    · have hk:x3.1<(dg b).length:=by
        simp only [X3] at *
        omega
      refine Ql (congrArg (Value.int .i64) (Qz _ (by omega) (by omega))) ⟨qe QP x3.2.2 .i64 ((x2.1:Int)+(x3.1:Int)) (by omega) (by rw [←ZE];omega),Qy (VB (e:=3) x3.2.2 3 YM (Int.toNat ((x2.1:Int)+(x3.1:Int))) okn (by omega)) (JM (e:=3) x3.2.2 (Int.toNat ((x2.1:Int)+(x3.1:Int))) okn (by omega)) fun x4 h6=> ?_⟩
      replace h6:=yX (e:=3) x3.2.2 (Int.toNat ((x2.1:Int)+(x3.1:Int))) okn (by omega) h6
      refine ⟨qe QP a .i64 (x2.1:Int) (by omega) (by rw [←ZE];omega),Qy (VB (e:=3) a 3 YM (Int.toNat (x2.1:Int)) r_a (by omega)) (JM (e:=3) a (Int.toNat (x2.1:Int)) r_a (by omega)) fun x5 h7=> ?_⟩
      replace h7:=yX (e:=3) a (Int.toNat (x2.1:Int)) r_a (by omega) h7
      refine ⟨qe QP b .i64 (x3.1:Int) (by omega) (by rw [←ZE];omega),Qy (VB (e:=3) b 3 YM (Int.toNat (x3.1:Int)) r_b (by omega)) (JM (e:=3) b (Int.toNat (x3.1:Int)) r_b (by omega)) fun x6 h8=> ?_⟩
      replace h8:=yX (e:=3) b (Int.toNat (x3.1:Int)) r_b (by omega) h8
      refine Ql (congrArg (Value.int .i64) (Qz _ (by have hab:=gb (a:=x5) (b:=x6) (by omega) (by omega) (by omega) (by omega);omega) (by have hab:=gb (a:=x5) (b:=x6) (by omega) (by omega) (by omega) (by omega);omega))) (Ql (congrArg (Value.int .i64) (Qz _ (by have hab:=gb (a:=x5) (b:=x6) (by omega) (by omega) (by omega) (by omega);omega) (by have hab:=gb (a:=x5) (b:=x6) (by omega) (by omega) (by omega) (by omega);omega))) (Ql (congrArg (Value.int .i64) (Qz _ (by have hab:=gb (a:=x5) (b:=x6) (by omega) (by omega) (by omega) (by omega);omega) (by have hab:=gb (a:=x5) (b:=x6) (by omega) (by omega) (by omega) (by omega);omega))) ?_))
      have hab:=gb (a:=x5) (b:=x6) (by omega) (by omega) (by omega) (by omega)
      refine Ql (congrArg (Value.int .i64) (Qz _ (by omega) (by omega))) (Ql (congrArg (Value.int .i64) (Zt (by omega))) ⟨qe QP x3.2.2 .i64 ((x2.1:Int)+(x3.1:Int)) (by omega) (by rw [←ZE];omega),QG (Qe9 (e:=3) x3.2.2 3 DW (Int.toNat ((x2.1:Int)+(x3.1:Int))) (.int .i64 (((x4+(x5*x6))+x3.2.1)%65536)) rfl rfl (by rw [←ZE];omega)) (⟨(),trivial⟩) fun _ _=>Ql (congrArg (Value.int .i64) (kj (by omega) (by omega))) (Ql (congrArg (Value.int .i64) (Qz _ (by omega) (by omega))) ?_)⟩)
      have et:Int.toNat ((x2.1:Int)+(x3.1:Int))=x2.1+x3.1:=by omega
      have q:=Qb8 (x:=((x4+(x5*x6))+x3.2.1)) r_a.dig r_b.dig okn.dig M hi hk (by simp only [et,Int.toNat_natCast] at *;simp only [*])
      have p:=okn.set (x2.1+x3.1) q.2.1 q.2.2
      exact ⟨(x3.1+1,_,x3.2.2.set (x2.1+x3.1) (.int .i64 (((x4+(x5*x6))+x3.2.1)%65536))),⟨p.2.symm▸q.1,p.1⟩,by dsimp only;omega,rfl,rfl,(Bi _ _ _).symm,rfl,rfl,rfl,congrArg (Value.int .i64) (by dsimp only;omega),rfl,rfl,rfl,rfl,by rw [et];exact B9 _ _ _ _ (by rw [←ZE];omega),trivial⟩
    have hz:=(Wa okn.dig M.z).1
    have hk:x3.1=(dg b).length:=by
      simp only [X3] at *
      omega
    have et' :Int.toNat ((x2.1:Int)+((vlen (sv b):Nat):Int))=x2.1+(dg b).length:=by omega
    have hz' :dgt (dg x3.2.2) (Int.toNat ((x2.1:Int)+((vlen (sv b):Nat):Int)))=0:=by rw [et'];exact hz
    refine ⟨JP QP 3 b,Ql (congrArg (Value.int .i64) (Qz _ (by omega) (by omega))) ⟨JP QP 3 b,Ql (congrArg (Value.int .i64) (Qz _ (by omega) (by omega))) ⟨qe QP x3.2.2 .i64 ((x2.1:Int)+((vlen (sv b):Nat):Int)) (by omega) (by rw [←ZE];omega),Qy (VB (e:=3) x3.2.2 3 YM (Int.toNat ((x2.1:Int)+((vlen (sv b):Nat):Int))) okn (by omega)) (JM (e:=3) x3.2.2 (Int.toNat ((x2.1:Int)+((vlen (sv b):Nat):Int))) okn (by omega)) fun x7 h9=> ?_⟩⟩⟩
    replace h9:=yX (e:=3) x3.2.2 (Int.toNat ((x2.1:Int)+((vlen (sv b):Nat):Int))) okn (by omega) h9
    refine Ql (congrArg (Value.int .i64) (Qz _ (by omega) (by omega))) ⟨qe QP x3.2.2 .i64 ((x2.1:Int)+((vlen (sv b):Nat):Int)) (by omega) (by rw [←ZE];omega),QG (Qe9 (e:=3) x3.2.2 3 DW (Int.toNat ((x2.1:Int)+((vlen (sv b):Nat):Int))) (.int .i64 (x7+x3.2.1)) rfl rfl (by rw [←ZE];omega)) (⟨(),trivial⟩) fun _ _=>Ql (congrArg (Value.int .i64) (Qz _ (by omega) (by omega))) ?_⟩
    have et:Int.toNat ((x2.1:Int)+((vlen (sv b):Nat):Int))=x2.1+(dg b).length:=by omega
    have hk:x3.1=(dg b).length:=by
      simp only [X3] at *
      omega
    rw [hk] at M
    have q:=QcL okn.dig M hi
    have hv:x7+x3.2.1=dgt (dg x3.2.2) (x2.1+(dg b).length)+x3.2.1:=by simp only [et] at *;simp only [*]
    have p:=okn.set (x2.1+(dg b).length) q.2.1 q.2.2
    exact ⟨(x2.1+1,x3.2.2.set (x2.1+(dg b).length) (.int .i64 (dgt (dg x3.2.2) (x2.1+(dg b).length)+x3.2.1))),⟨p.2.symm▸q.1,p.1⟩,by dsimp only;omega,rfl,rfl,(Bi _ _ _).symm,rfl,congrArg (Value.int .i64) (by dsimp only;omega),rfl,rfl,by rw [et,hv];exact B9 _ _ _ _ (by rw [←ZE];omega),trivial⟩
  refine J1 x2.2 (fun x8 rh10_ h10=> ?_)
  unfold Gv
  have T:KW (dg x2.2) (dg x8):=by first | exact And.right ‹_› | assumption
  have hi:x2.1=(dg a).length:=by
    simp only [X3] at *
    omega
  rw [hi] at L
  exact ⟨_,⟨by assumption,by rw [d_a,d_b];exact T.eq.trans (Qe0 L),T.canon⟩,rfl,rfl,rfl,rfl,trivial⟩
abbrev UU (a b:QK) (KK:QK->Prop):Prop:=xo a b (fun za zh zv zu zp=>Ze Tryz.prog 79 za zh QK zv zu zp KK)
theorem xv (a b:QK) {KK:QK->Prop} (kont: ∀J:QK,Qr J->(nv (dg J)=nv (dg a)*nv (dg b)/\Zj (dg J))->KK J) (r_a:Qr a:=by first | assumption | exact ZW _ _ (by decide)) (r_b:Qr b:=by first | assumption | exact ZW _ _ (by decide)) (la:(dg a).length<=65536:=by omega) (lb:(dg b).length<=65536:=by omega):UU a b KK:=QH (Qc3 a b r_a r_b la lb) (VP (by rw [Zu a,Zu b];exact Int.mul_nonneg (ZJ (Qr.dig (r_a))) (ZJ (Qr.dig (r_b))))) fun J hz=>by
  simp only [Zu] at hz
  obtain ⟨rhz_,hz⟩:=hz
  exact kont J rhz_ hz
def ZK:List Value->List Qf->ZB:=fun vs hs=>⟨QK,fun J=>sv J,fun J=> [(ss 3 J)],fun J=>Qr J/\nv (dg J)=(Qe (Qd vs 1))/\Zj (dg J)/\(dg J).length<=16⟩
abbrev GN (a:Int) (zv:Value) (zs0:Qf):Prop:= ∃J:QK,(Qr J/\nv (dg J)=(Qe (vI a))/\Zj (dg J)/\(dg J).length<=16)/\zv=sv J/\zs0=(ss 3 J)/\True
abbrev xc (a:Int) (zF:SF QK):Prop:=zF #[vI a] [] (fun J=>sv J) (fun J=> [(ss 3 J)]) (fun J=>(Qr J/\nv (dg J)=(Qe (vI a))/\Zj (dg J)/\(dg J).length<=16))
set_option maxHeartbeats 2000000 in
theorem p7 (a:Int):xc a (fun za zh zv zu zp=>QB Tryz.prog 24 none 2000 none (Qk Tryz.f80) (.reg [.sem [.nw 0],S0] (.reg [S0] (.reg [.sem (QV 4 0),S0] (.reg [S0] (.condT (.reg [S0,S0] (.reg [S0] (.reg [S0] (.condT (.reg [S0,S0, .gen [] (fun vs=>Sx.one (uu (ci (Qd vs 0)%65536)) vs), .gen [] (fun vs=>Sx.one (ii (ci (Qd vs 0))) vs), .sem [.nw 1], .specw [2,1] [20,1] (Ji 3),S0] (.reg [S0, .gen [] (fun vs=>Sx.one (uu (ci (Qd vs 0)/65536)) vs),S0] (.reg [S0,S0] (.reg [S0] (.condT (.reg [S0,S0, .gen [] (fun vs=>Sx.one (uu (ci (Qd vs 0)%65536)) vs), .gen [] (fun vs=>Sx.one (ii (ci (Qd vs 0))) vs), .sem [.nw 1], .specw [20,1] [20,1] (Ji 3),S0] (.reg [S0, .gen [] (fun vs=>Sx.one (uu (ci (Qd vs 0)/65536)) vs),S0] (.reg [S0,S0] (.reg [S0] (.condT (.reg [S0,S0, .gen [] (fun vs=>Sx.one (uu (ci (Qd vs 0)%65536)) vs), .gen [] (fun vs=>Sx.one (ii (ci (Qd vs 0))) vs), .sem [.nw 1], .specw [20,1] [20,1] (Ji 3),S0] (.reg [S0, .gen [] (fun vs=>Sx.one (uu (ci (Qd vs 0)/65536)) vs),S0] (.reg [S0,S0] (.reg [S0] (.condT (.reg [S0,S0, .gen [] (fun vs=>Sx.one (uu (ci (Qd vs 0)%65536)) vs), .gen [] (fun vs=>Sx.one (ii (ci (Qd vs 0))) vs), .sem [.nw 1], .specw [20,1] [20,1] (Ji 3),S0] (.reg [S0, .gen [] (fun vs=>Sx.one (uu (ci (Qd vs 0)/65536)) vs),S0] (.reg [S0,S0] (.reg [S0] (.condF (.reg [S0,S0] (.reg [S0] (.condT (.reg [S0,S0] (.reg [S0] (.reg [S0] (.condT (.reg [S0,S0, .gen [] (fun vs=>Sx.one (uu (ci (Qd vs 0)%65536)) vs), .gen [] (fun vs=>Sx.one (ii (ci (Qd vs 0))) vs), .sem [.nw 1], .specw [20,1] [20,1] (Ji 3),S0] (.reg [S0, .gen [] (fun vs=>Sx.one (uu (ci (Qd vs 0)/65536)) vs),S0] (.reg [S0,S0] (.reg [S0] (.condT (.reg [S0,S0, .gen [] (fun vs=>Sx.one (uu (ci (Qd vs 0)%65536)) vs), .gen [] (fun vs=>Sx.one (ii (ci (Qd vs 0))) vs), .sem [.nw 1], .specw [20,1] [20,1] (Ji 3),S0] (.reg [S0, .gen [] (fun vs=>Sx.one (uu (ci (Qd vs 0)/65536)) vs),S0] (.reg [S0,S0] (.reg [S0] (.condT (.reg [S0,S0, .gen [] (fun vs=>Sx.one (uu (ci (Qd vs 0)%65536)) vs), .gen [] (fun vs=>Sx.one (ii (ci (Qd vs 0))) vs), .sem [.nw 1], .specw [20,1] [20,1] (Ji 3),S0] (.reg [S0, .gen [] (fun vs=>Sx.one (uu (ci (Qd vs 0)/65536)) vs),S0] (.reg [S0,S0] (.reg [S0] (.condT (.reg [S0,S0, .gen [] (fun vs=>Sx.one (uu (ci (Qd vs 0)%65536)) vs), .gen [] (fun vs=>Sx.one (ii (ci (Qd vs 0))) vs), .sem [.nw 1], .specw [20,1] [20,1] (Ji 3),S0] (.reg [S0, .gen [] (fun vs=>Sx.one (uu (ci (Qd vs 0)/65536)) vs),S0] (.reg [S0,S0] (.reg [S0] (.condF (.reg [S0,S0] (.reg [S0] (.condT (.reg [S0,S0] (.reg [S0] (.reg [S0] (.condT (.reg [S0,S0, .gen [] (fun vs=>Sx.one (uu (ci (Qd vs 0)%65536)) vs), .gen [] (fun vs=>Sx.one (ii (ci (Qd vs 0))) vs), .sem [.nw 1], .specw [20,1] [20,1] (Ji 3),S0] (.reg [S0, .gen [] (fun vs=>Sx.one (uu (ci (Qd vs 0)/65536)) vs),S0] (.reg [S0,S0] (.reg [S0] (.condT (.reg [S0,S0, .gen [] (fun vs=>Sx.one (uu (ci (Qd vs 0)%65536)) vs), .gen [] (fun vs=>Sx.one (ii (ci (Qd vs 0))) vs), .sem [.nw 1], .specw [20,1] [20,1] (Ji 3),S0] (.reg [S0, .gen [] (fun vs=>Sx.one (uu (ci (Qd vs 0)/65536)) vs),S0] (.reg [S0,S0] (.reg [S0] (.condT (.reg [S0,S0, .gen [] (fun vs=>Sx.one (uu (ci (Qd vs 0)%65536)) vs), .gen [] (fun vs=>Sx.one (ii (ci (Qd vs 0))) vs), .sem [.nw 1], .specw [20,1] [20,1] (Ji 3),S0] (.reg [S0, .gen [] (fun vs=>Sx.one (uu (ci (Qd vs 0)/65536)) vs),S0] (.reg [S0,S0] (.reg [S0] (.condT (.reg [S0,S0, .gen [] (fun vs=>Sx.one (uu (ci (Qd vs 0)%65536)) vs), .gen [] (fun vs=>Sx.one (ii (ci (Qd vs 0))) vs), .sem [.nw 1], .specw [20,1] [20,1] (Ji 3),S0] (.reg [S0, .gen [] (fun vs=>Sx.one (uu (ci (Qd vs 0)/65536)) vs),S0] (.reg [S0,S0] (.reg [S0] (.condF (.reg [S0,S0] (.reg [S0] (.condT (.reg [S0,S0] (.reg [S0] (.reg [S0] (.condT (.reg [S0,S0, .gen [] (fun vs=>Sx.one (uu (ci (Qd vs 0)%65536)) vs), .gen [] (fun vs=>Sx.one (ii (ci (Qd vs 0))) vs), .sem [.nw 1], .specw [20,1] [20,1] (Ji 3),S0] (.reg [S0, .gen [] (fun vs=>Sx.one (uu (ci (Qd vs 0)/65536)) vs),S0] (.reg [S0,S0] (.reg [S0] (.condT (.reg [S0,S0, .gen [] (fun vs=>Sx.one (uu (ci (Qd vs 0)%65536)) vs), .gen [] (fun vs=>Sx.one (ii (ci (Qd vs 0))) vs), .sem [.nw 1], .specw [20,1] [20,1] (Ji 3),S0] (.reg [S0, .gen [] (fun vs=>Sx.one (uu (ci (Qd vs 0)/65536)) vs),S0] (.reg [S0,S0] (.reg [S0] (.condT (.reg [S0,S0, .gen [] (fun vs=>Sx.one (uu (ci (Qd vs 0)%65536)) vs), .gen [] (fun vs=>Sx.one (ii (ci (Qd vs 0))) vs), .sem [.nw 1], .specw [20,1] [20,1] (Ji 3),S0] (.reg [S0, .gen [] (fun vs=>Sx.one (uu (ci (Qd vs 0)/65536)) vs),S0] (.reg [S0,S0] (.reg [S0] (.condT (.reg [S0,S0, .gen [] (fun vs=>Sx.one (uu (ci (Qd vs 0)%65536)) vs), .gen [] (fun vs=>Sx.one (ii (ci (Qd vs 0))) vs), .sem [.nw 1], .specw [20,1] [20,1] (Ji 3),S0] (.reg [S0, .gen [] (fun vs=>Sx.one (uu (ci (Qd vs 0)/65536)) vs),S0] (.reg [S0,S0] (.reg [S0] (.condF (.reg [S0,S0] (.reg [S0] (.condF (.reg [S0, .callw [20] [20] JV,S0] (.done)))))))))))))))))))))))))))))))))))))))))))))))))))))))))))))))))))))))))))))))))))))))))))))))))))))))))))))))))))
    (Q2 za zh) (Q8 Tryz.prog Tryz.f80 [] [20] (X:=QK) zv zu zp))=
    (∀b1:Nat,Qj 4 b1 ((true=true)/\(true=true)/\gE (uu (Int.tmod (Qb a 0) 65536)) (uu ((Qb a 0)%65536)) (gE (ii (IntKind.i64.wrap ((Qb a 0)%65536))) (ii ((Qb a 0)%65536)) (∀b2:Nat,Xc Tryz.prog (vS (Builtin.append_ #[101,101] 101 #[sv QK.nil, .slice (some ⟨b2,0,none⟩) 1 1])) [.free,bk b2 #[ii ((Qb a 0)%65536)] 3] QK (fun J=>sv J) (fun J=> [(ss 3 J),bk b2 #[ii ((Qb a 0)%65536)] 3]) (fun J=>QS J=ZZ (sv QK.nil) (ss 3 QK.nil)++ [ii ((Qb a 0)%65536)]) (fun x3=>gE (uu (IntKind.u64.wrap (Int.tdiv (Qb a 0) 65536))) (uu ((Qb a 0)/65536)) ((true=true)/\gE (uu (Int.tmod ((Qb a 0)/65536) 65536)) (uu (((Qb a 0)/65536)%65536)) (gE (ii (IntKind.i64.wrap (((Qb a 0)/65536)%65536))) (ii (((Qb a 0)/65536)%65536)) (∀b4:Nat,Xc Tryz.prog (vS (Builtin.append_ #[101,101] 101 #[sv x3, .slice (some ⟨b4,0,none⟩) 1 1])) [(ss 3 x3),bk b4 #[ii (((Qb a 0)/65536)%65536)] 3] QK (fun J=>sv J) (fun J=> [(ss 3 J),bk b4 #[ii (((Qb a 0)/65536)%65536)] 3]) (fun J=>QS J=ZZ (sv x3) (ss 3 x3)++ [ii (((Qb a 0)/65536)%65536)]) (fun x5=>gE (uu (IntKind.u64.wrap (Int.tdiv ((Qb a 0)/65536) 65536))) (uu (((Qb a 0)/65536)/65536)) ((true=true)/\gE (uu (Int.tmod (((Qb a 0)/65536)/65536) 65536)) (uu ((((Qb a 0)/65536)/65536)%65536)) (gE (ii (IntKind.i64.wrap ((((Qb a 0)/65536)/65536)%65536))) (ii ((((Qb a 0)/65536)/65536)%65536)) (∀b6:Nat,Xc Tryz.prog (vS (Builtin.append_ #[101,101] 101 #[sv x5, .slice (some ⟨b6,0,none⟩) 1 1])) [(ss 3 x5),bk b6 #[ii ((((Qb a 0)/65536)/65536)%65536)] 3] QK (fun J=>sv J) (fun J=> [(ss 3 J),bk b6 #[ii ((((Qb a 0)/65536)/65536)%65536)] 3]) (fun J=>QS J=ZZ (sv x5) (ss 3 x5)++ [ii ((((Qb a 0)/65536)/65536)%65536)]) (fun x7=>gE (uu (IntKind.u64.wrap (Int.tdiv (((Qb a 0)/65536)/65536) 65536))) (uu ((((Qb a 0)/65536)/65536)/65536)) ((true=true)/\gE (uu (Int.tmod ((((Qb a 0)/65536)/65536)/65536) 65536)) (uu (((((Qb a 0)/65536)/65536)/65536)%65536)) (gE (ii (IntKind.i64.wrap (((((Qb a 0)/65536)/65536)/65536)%65536))) (ii (((((Qb a 0)/65536)/65536)/65536)%65536)) (∀b8:Nat,Xc Tryz.prog (vS (Builtin.append_ #[101,101] 101 #[sv x7, .slice (some ⟨b8,0,none⟩) 1 1])) [(ss 3 x7),bk b8 #[ii (((((Qb a 0)/65536)/65536)/65536)%65536)] 3] QK (fun J=>sv J) (fun J=> [(ss 3 J),bk b8 #[ii (((((Qb a 0)/65536)/65536)/65536)%65536)] 3]) (fun J=>QS J=ZZ (sv x7) (ss 3 x7)++ [ii (((((Qb a 0)/65536)/65536)/65536)%65536)]) (fun x9=>gE (uu (IntKind.u64.wrap (Int.tdiv ((((Qb a 0)/65536)/65536)/65536) 65536))) (uu (((((Qb a 0)/65536)/65536)/65536)/65536)) ((false=false)/\(true=true)/\(true=true)/\gE (uu (Int.tmod (Qb a 1) 65536)) (uu ((Qb a 1)%65536)) (gE (ii (IntKind.i64.wrap ((Qb a 1)%65536))) (ii ((Qb a 1)%65536)) (∀b10:Nat,Xc Tryz.prog (vS (Builtin.append_ #[101,101] 101 #[sv x9, .slice (some ⟨b10,0,none⟩) 1 1])) [(ss 3 x9),bk b10 #[ii ((Qb a 1)%65536)] 3] QK (fun J=>sv J) (fun J=> [(ss 3 J),bk b10 #[ii ((Qb a 1)%65536)] 3]) (fun J=>QS J=ZZ (sv x9) (ss 3 x9)++ [ii ((Qb a 1)%65536)]) (fun x11=>gE (uu (IntKind.u64.wrap (Int.tdiv (Qb a 1) 65536))) (uu ((Qb a 1)/65536)) ((true=true)/\gE (uu (Int.tmod ((Qb a 1)/65536) 65536)) (uu (((Qb a 1)/65536)%65536)) (gE (ii (IntKind.i64.wrap (((Qb a 1)/65536)%65536))) (ii (((Qb a 1)/65536)%65536)) (∀b12:Nat,Xc Tryz.prog (vS (Builtin.append_ #[101,101] 101 #[sv x11, .slice (some ⟨b12,0,none⟩) 1 1])) [(ss 3 x11),bk b12 #[ii (((Qb a 1)/65536)%65536)] 3] QK (fun J=>sv J) (fun J=> [(ss 3 J),bk b12 #[ii (((Qb a 1)/65536)%65536)] 3]) (fun J=>QS J=ZZ (sv x11) (ss 3 x11)++ [ii (((Qb a 1)/65536)%65536)]) (fun x13=>gE (uu (IntKind.u64.wrap (Int.tdiv ((Qb a 1)/65536) 65536))) (uu (((Qb a 1)/65536)/65536)) ((true=true)/\gE (uu (Int.tmod (((Qb a 1)/65536)/65536) 65536)) (uu ((((Qb a 1)/65536)/65536)%65536)) (gE (ii (IntKind.i64.wrap ((((Qb a 1)/65536)/65536)%65536))) (ii ((((Qb a 1)/65536)/65536)%65536)) (∀b14:Nat,Xc Tryz.prog (vS (Builtin.append_ #[101,101] 101 #[sv x13, .slice (some ⟨b14,0,none⟩) 1 1])) [(ss 3 x13),bk b14 #[ii ((((Qb a 1)/65536)/65536)%65536)] 3] QK (fun J=>sv J) (fun J=> [(ss 3 J),bk b14 #[ii ((((Qb a 1)/65536)/65536)%65536)] 3]) (fun J=>QS J=ZZ (sv x13) (ss 3 x13)++ [ii ((((Qb a 1)/65536)/65536)%65536)]) (fun x15=>gE (uu (IntKind.u64.wrap (Int.tdiv (((Qb a 1)/65536)/65536) 65536))) (uu ((((Qb a 1)/65536)/65536)/65536)) ((true=true)/\gE (uu (Int.tmod ((((Qb a 1)/65536)/65536)/65536) 65536)) (uu (((((Qb a 1)/65536)/65536)/65536)%65536)) (gE (ii (IntKind.i64.wrap (((((Qb a 1)/65536)/65536)/65536)%65536))) (ii (((((Qb a 1)/65536)/65536)/65536)%65536)) (∀b16:Nat,Xc Tryz.prog (vS (Builtin.append_ #[101,101] 101 #[sv x15, .slice (some ⟨b16,0,none⟩) 1 1])) [(ss 3 x15),bk b16 #[ii (((((Qb a 1)/65536)/65536)/65536)%65536)] 3] QK (fun J=>sv J) (fun J=> [(ss 3 J),bk b16 #[ii (((((Qb a 1)/65536)/65536)/65536)%65536)] 3]) (fun J=>QS J=ZZ (sv x15) (ss 3 x15)++ [ii (((((Qb a 1)/65536)/65536)/65536)%65536)]) (fun x17=>gE (uu (IntKind.u64.wrap (Int.tdiv ((((Qb a 1)/65536)/65536)/65536) 65536))) (uu (((((Qb a 1)/65536)/65536)/65536)/65536)) ((false=false)/\(true=true)/\(true=true)/\gE (uu (Int.tmod (Qb a 2) 65536)) (uu ((Qb a 2)%65536)) (gE (ii (IntKind.i64.wrap ((Qb a 2)%65536))) (ii ((Qb a 2)%65536)) (∀b18:Nat,Xc Tryz.prog (vS (Builtin.append_ #[101,101] 101 #[sv x17, .slice (some ⟨b18,0,none⟩) 1 1])) [(ss 3 x17),bk b18 #[ii ((Qb a 2)%65536)] 3] QK (fun J=>sv J) (fun J=> [(ss 3 J),bk b18 #[ii ((Qb a 2)%65536)] 3]) (fun J=>QS J=ZZ (sv x17) (ss 3 x17)++ [ii ((Qb a 2)%65536)]) (fun x19=>gE (uu (IntKind.u64.wrap (Int.tdiv (Qb a 2) 65536))) (uu ((Qb a 2)/65536)) ((true=true)/\gE (uu (Int.tmod ((Qb a 2)/65536) 65536)) (uu (((Qb a 2)/65536)%65536)) (gE (ii (IntKind.i64.wrap (((Qb a 2)/65536)%65536))) (ii (((Qb a 2)/65536)%65536)) (∀b20:Nat,Xc Tryz.prog (vS (Builtin.append_ #[101,101] 101 #[sv x19, .slice (some ⟨b20,0,none⟩) 1 1])) [(ss 3 x19),bk b20 #[ii (((Qb a 2)/65536)%65536)] 3] QK (fun J=>sv J) (fun J=> [(ss 3 J),bk b20 #[ii (((Qb a 2)/65536)%65536)] 3]) (fun J=>QS J=ZZ (sv x19) (ss 3 x19)++ [ii (((Qb a 2)/65536)%65536)]) (fun x21=>gE (uu (IntKind.u64.wrap (Int.tdiv ((Qb a 2)/65536) 65536))) (uu (((Qb a 2)/65536)/65536)) ((true=true)/\gE (uu (Int.tmod (((Qb a 2)/65536)/65536) 65536)) (uu ((((Qb a 2)/65536)/65536)%65536)) (gE (ii (IntKind.i64.wrap ((((Qb a 2)/65536)/65536)%65536))) (ii ((((Qb a 2)/65536)/65536)%65536)) (∀b22:Nat,Xc Tryz.prog (vS (Builtin.append_ #[101,101] 101 #[sv x21, .slice (some ⟨b22,0,none⟩) 1 1])) [(ss 3 x21),bk b22 #[ii ((((Qb a 2)/65536)/65536)%65536)] 3] QK (fun J=>sv J) (fun J=> [(ss 3 J),bk b22 #[ii ((((Qb a 2)/65536)/65536)%65536)] 3]) (fun J=>QS J=ZZ (sv x21) (ss 3 x21)++ [ii ((((Qb a 2)/65536)/65536)%65536)]) (fun x23=>gE (uu (IntKind.u64.wrap (Int.tdiv (((Qb a 2)/65536)/65536) 65536))) (uu ((((Qb a 2)/65536)/65536)/65536)) ((true=true)/\gE (uu (Int.tmod ((((Qb a 2)/65536)/65536)/65536) 65536)) (uu (((((Qb a 2)/65536)/65536)/65536)%65536)) (gE (ii (IntKind.i64.wrap (((((Qb a 2)/65536)/65536)/65536)%65536))) (ii (((((Qb a 2)/65536)/65536)/65536)%65536)) (∀b24:Nat,Xc Tryz.prog (vS (Builtin.append_ #[101,101] 101 #[sv x23, .slice (some ⟨b24,0,none⟩) 1 1])) [(ss 3 x23),bk b24 #[ii (((((Qb a 2)/65536)/65536)/65536)%65536)] 3] QK (fun J=>sv J) (fun J=> [(ss 3 J),bk b24 #[ii (((((Qb a 2)/65536)/65536)/65536)%65536)] 3]) (fun J=>QS J=ZZ (sv x23) (ss 3 x23)++ [ii (((((Qb a 2)/65536)/65536)/65536)%65536)]) (fun x25=>gE (uu (IntKind.u64.wrap (Int.tdiv ((((Qb a 2)/65536)/65536)/65536) 65536))) (uu (((((Qb a 2)/65536)/65536)/65536)/65536)) ((false=false)/\(true=true)/\(true=true)/\gE (uu (Int.tmod (Qb a 3) 65536)) (uu ((Qb a 3)%65536)) (gE (ii (IntKind.i64.wrap ((Qb a 3)%65536))) (ii ((Qb a 3)%65536)) (∀b26:Nat,Xc Tryz.prog (vS (Builtin.append_ #[101,101] 101 #[sv x25, .slice (some ⟨b26,0,none⟩) 1 1])) [(ss 3 x25),bk b26 #[ii ((Qb a 3)%65536)] 3] QK (fun J=>sv J) (fun J=> [(ss 3 J),bk b26 #[ii ((Qb a 3)%65536)] 3]) (fun J=>QS J=ZZ (sv x25) (ss 3 x25)++ [ii ((Qb a 3)%65536)]) (fun x27=>gE (uu (IntKind.u64.wrap (Int.tdiv (Qb a 3) 65536))) (uu ((Qb a 3)/65536)) ((true=true)/\gE (uu (Int.tmod ((Qb a 3)/65536) 65536)) (uu (((Qb a 3)/65536)%65536)) (gE (ii (IntKind.i64.wrap (((Qb a 3)/65536)%65536))) (ii (((Qb a 3)/65536)%65536)) (∀b28:Nat,Xc Tryz.prog (vS (Builtin.append_ #[101,101] 101 #[sv x27, .slice (some ⟨b28,0,none⟩) 1 1])) [(ss 3 x27),bk b28 #[ii (((Qb a 3)/65536)%65536)] 3] QK (fun J=>sv J) (fun J=> [(ss 3 J),bk b28 #[ii (((Qb a 3)/65536)%65536)] 3]) (fun J=>QS J=ZZ (sv x27) (ss 3 x27)++ [ii (((Qb a 3)/65536)%65536)]) (fun x29=>gE (uu (IntKind.u64.wrap (Int.tdiv ((Qb a 3)/65536) 65536))) (uu (((Qb a 3)/65536)/65536)) ((true=true)/\gE (uu (Int.tmod (((Qb a 3)/65536)/65536) 65536)) (uu ((((Qb a 3)/65536)/65536)%65536)) (gE (ii (IntKind.i64.wrap ((((Qb a 3)/65536)/65536)%65536))) (ii ((((Qb a 3)/65536)/65536)%65536)) (∀b30:Nat,Xc Tryz.prog (vS (Builtin.append_ #[101,101] 101 #[sv x29, .slice (some ⟨b30,0,none⟩) 1 1])) [(ss 3 x29),bk b30 #[ii ((((Qb a 3)/65536)/65536)%65536)] 3] QK (fun J=>sv J) (fun J=> [(ss 3 J),bk b30 #[ii ((((Qb a 3)/65536)/65536)%65536)] 3]) (fun J=>QS J=ZZ (sv x29) (ss 3 x29)++ [ii ((((Qb a 3)/65536)/65536)%65536)]) (fun x31=>gE (uu (IntKind.u64.wrap (Int.tdiv (((Qb a 3)/65536)/65536) 65536))) (uu ((((Qb a 3)/65536)/65536)/65536)) ((true=true)/\gE (uu (Int.tmod ((((Qb a 3)/65536)/65536)/65536) 65536)) (uu (((((Qb a 3)/65536)/65536)/65536)%65536)) (gE (ii (IntKind.i64.wrap (((((Qb a 3)/65536)/65536)/65536)%65536))) (ii (((((Qb a 3)/65536)/65536)/65536)%65536)) (∀b32:Nat,Xc Tryz.prog (vS (Builtin.append_ #[101,101] 101 #[sv x31, .slice (some ⟨b32,0,none⟩) 1 1])) [(ss 3 x31),bk b32 #[ii (((((Qb a 3)/65536)/65536)/65536)%65536)] 3] QK (fun J=>sv J) (fun J=> [(ss 3 J),bk b32 #[ii (((((Qb a 3)/65536)/65536)/65536)%65536)] 3]) (fun J=>QS J=ZZ (sv x31) (ss 3 x31)++ [ii (((((Qb a 3)/65536)/65536)/65536)%65536)]) (fun x33=>gE (uu (IntKind.u64.wrap (Int.tdiv ((((Qb a 3)/65536)/65536)/65536) 65536))) (uu (((((Qb a 3)/65536)/65536)/65536)/65536)) ((false=false)/\(false=false)/\Jh x33 (fun x34=>GN a (sv x34) (ss 3 x34)))))))))))))))))))))))))))))))))))))))))))))))))))))))))))))))))))):=by kernel_rfl
set_option maxHeartbeats 2000000 in
theorem QdN (a:Int) (r_a:R4 a):xc a (fun za zh zv zu zp=>QC Tryz.prog 80 za zh QK zv zu zp):=by
  refine Qx (c:=Qk Tryz.f80) (n:=24) (fn:=Tryz.f80) QF Tryz.func80 (by kernel_rfl) (by kernel_rfl) (by kernel_rfl) 2000 _ [] [20] rfl rfl (Eq.mpr (p7 a) ?_)
  have q0:=Qhi
  intro b1
  refine Qa 4 _ ⟨rfl,?_⟩
  have ww:=Qn a 0
  refine ⟨rfl,Ql (congrArg (Value.int .u64) (Zt ww.1)) (Ql (congrArg (Value.int .i64) (Kg _)) (fun b2=>QG (Zv QP 101 QK.nil (Nat.le_trans (Nat.le_of_eq q0.2.1) (by decide)) b2 1 (.int .i64 ((Qb a 0)%65536)) rfl) (ZU _) fun x3 h1=> ?_))⟩
  rw [Zd] at h1
  have q1:=K9 (x:=((Qb a 0)%65536)) q0 (show Ku 0=1 from rfl) ‹_› (YW _) (Y0 _)
  refine Ql (congrArg (Value.int .u64) (Jb ww)) ⟨rfl,Ql (congrArg (Value.int .u64) (Zt (ZI ww).1)) (Ql (congrArg (Value.int .i64) (Kg _)) (fun b4=>QG (Zv QP 101 x3 (Nat.le_trans (Nat.le_of_eq q1.2.1) (by decide)) b4 1 (.int .i64 (((Qb a 0)/65536)%65536)) rfl) (ZU _) fun x5 h2=> ?_))⟩
  rw [Zd] at h2
  have q2:=K9 (x:=(((Qb a 0)/65536)%65536)) q1 (show Ku 1=65536 from rfl) ‹_› (YW _) (Y0 _)
  refine Ql (congrArg (Value.int .u64) (Jb (ZI ww))) ⟨rfl,Ql (congrArg (Value.int .u64) (Zt (ZI (ZI ww)).1)) (Ql (congrArg (Value.int .i64) (Kg _)) (fun b6=>QG (Zv QP 101 x5 (Nat.le_trans (Nat.le_of_eq q2.2.1) (by decide)) b6 1 (.int .i64 ((((Qb a 0)/65536)/65536)%65536)) rfl) (ZU _) fun x7 h3=> ?_))⟩
  rw [Zd] at h3
  have q3:=K9 (x:=((((Qb a 0)/65536)/65536)%65536)) q2 (show Ku 2=4294967296 from rfl) ‹_› (YW _) (Y0 _)
  refine Ql (congrArg (Value.int .u64) (Jb (ZI (ZI ww)))) ⟨rfl,Ql (congrArg (Value.int .u64) (Zt (ZI (ZI (ZI ww))).1)) (Ql (congrArg (Value.int .i64) (Kg _)) (fun b8=>QG (Zv QP 101 x7 (Nat.le_trans (Nat.le_of_eq q3.2.1) (by decide)) b8 1 (.int .i64 (((((Qb a 0)/65536)/65536)/65536)%65536)) rfl) (ZU _) fun x9 h4=> ?_))⟩
  rw [Zd] at h4
  have q4:=K9 (x:=(((((Qb a 0)/65536)/65536)/65536)%65536)) q3 (show Ku 3=281474976710656 from rfl) ‹_› (YW _) (Y0 _)
  refine Ql (congrArg (Value.int .u64) (Jb (ZI (ZI (ZI ww))))) ⟨rfl,⟨rfl,?_⟩⟩
  have ww:=Qn a 1
  refine ⟨rfl,Ql (congrArg (Value.int .u64) (Zt ww.1)) (Ql (congrArg (Value.int .i64) (Kg _)) (fun b10=>QG (Zv QP 101 x9 (Nat.le_trans (Nat.le_of_eq q4.2.1) (by decide)) b10 1 (.int .i64 ((Qb a 1)%65536)) rfl) (ZU _) fun x11 h5=> ?_))⟩
  rw [Zd] at h5
  have q5:=K9 (x:=((Qb a 1)%65536)) q4 (show Ku 4=18446744073709551616 from rfl) ‹_› (YW _) (Y0 _)
  refine Ql (congrArg (Value.int .u64) (Jb ww)) ⟨rfl,Ql (congrArg (Value.int .u64) (Zt (ZI ww).1)) (Ql (congrArg (Value.int .i64) (Kg _)) (fun b12=>QG (Zv QP 101 x11 (Nat.le_trans (Nat.le_of_eq q5.2.1) (by decide)) b12 1 (.int .i64 (((Qb a 1)/65536)%65536)) rfl) (ZU _) fun x13 h6=> ?_))⟩
  rw [Zd] at h6
  have q6:=K9 (x:=(((Qb a 1)/65536)%65536)) q5 (show Ku 5=1208925819614629174706176 from rfl) ‹_› (YW _) (Y0 _)
  refine Ql (congrArg (Value.int .u64) (Jb (ZI ww))) ⟨rfl,Ql (congrArg (Value.int .u64) (Zt (ZI (ZI ww)).1)) (Ql (congrArg (Value.int .i64) (Kg _)) (fun b14=>QG (Zv QP 101 x13 (Nat.le_trans (Nat.le_of_eq q6.2.1) (by decide)) b14 1 (.int .i64 ((((Qb a 1)/65536)/65536)%65536)) rfl) (ZU _) fun x15 h7=> ?_))⟩
  rw [Zd] at h7
  have q7:=K9 (x:=((((Qb a 1)/65536)/65536)%65536)) q6 (show Ku 6=79228162514264337593543950336 from rfl) ‹_› (YW _) (Y0 _)
  refine Ql (congrArg (Value.int .u64) (Jb (ZI (ZI ww)))) ⟨rfl,Ql (congrArg (Value.int .u64) (Zt (ZI (ZI (ZI ww))).1)) (Ql (congrArg (Value.int .i64) (Kg _)) (fun b16=>QG (Zv QP 101 x15 (Nat.le_trans (Nat.le_of_eq q7.2.1) (by decide)) b16 1 (.int .i64 (((((Qb a 1)/65536)/65536)/65536)%65536)) rfl) (ZU _) fun x17 h8=> ?_))⟩
  rw [Zd] at h8
  have q8:=K9 (x:=(((((Qb a 1)/65536)/65536)/65536)%65536)) q7 (show Ku 7=5192296858534827628530496329220096 from rfl) ‹_› (YW _) (Y0 _)
  refine Ql (congrArg (Value.int .u64) (Jb (ZI (ZI (ZI ww))))) ⟨rfl,⟨rfl,?_⟩⟩
  have ww:=Qn a 2
  refine ⟨rfl,Ql (congrArg (Value.int .u64) (Zt ww.1)) (Ql (congrArg (Value.int .i64) (Kg _)) (fun b18=>QG (Zv QP 101 x17 (Nat.le_trans (Nat.le_of_eq q8.2.1) (by decide)) b18 1 (.int .i64 ((Qb a 2)%65536)) rfl) (ZU _) fun x19 h9=> ?_))⟩
  rw [Zd] at h9
  have q9:=K9 (x:=((Qb a 2)%65536)) q8 (show Ku 8=340282366920938463463374607431768211456 from rfl) ‹_› (YW _) (Y0 _)
  refine Ql (congrArg (Value.int .u64) (Jb ww)) ⟨rfl,Ql (congrArg (Value.int .u64) (Zt (ZI ww).1)) (Ql (congrArg (Value.int .i64) (Kg _)) (fun b20=>QG (Zv QP 101 x19 (Nat.le_trans (Nat.le_of_eq q9.2.1) (by decide)) b20 1 (.int .i64 (((Qb a 2)/65536)%65536)) rfl) (ZU _) fun x21 h10=> ?_))⟩
  rw [Zd] at h10
  have q10:=K9 (x:=(((Qb a 2)/65536)%65536)) q9 (show Ku 9=22300745198530623141535718272648361505980416 from rfl) ‹_› (YW _) (Y0 _)
  refine Ql (congrArg (Value.int .u64) (Jb (ZI ww))) ⟨rfl,Ql (congrArg (Value.int .u64) (Zt (ZI (ZI ww)).1)) (Ql (congrArg (Value.int .i64) (Kg _)) (fun b22=>QG (Zv QP 101 x21 (Nat.le_trans (Nat.le_of_eq q10.2.1) (by decide)) b22 1 (.int .i64 ((((Qb a 2)/65536)/65536)%65536)) rfl) (ZU _) fun x23 h11=> ?_))⟩
  rw [Zd] at h11
  have q11:=K9 (x:=((((Qb a 2)/65536)/65536)%65536)) q10 (show Ku 10=1461501637330902918203684832716283019655932542976 from rfl) ‹_› (YW _) (Y0 _)
  refine Ql (congrArg (Value.int .u64) (Jb (ZI (ZI ww)))) ⟨rfl,Ql (congrArg (Value.int .u64) (Zt (ZI (ZI (ZI ww))).1)) (Ql (congrArg (Value.int .i64) (Kg _)) (fun b24=>QG (Zv QP 101 x23 (Nat.le_trans (Nat.le_of_eq q11.2.1) (by decide)) b24 1 (.int .i64 (((((Qb a 2)/65536)/65536)/65536)%65536)) rfl) (ZU _) fun x25 h12=> ?_))⟩
  rw [Zd] at h12
  have q12:=K9 (x:=(((((Qb a 2)/65536)/65536)/65536)%65536)) q11 (show Ku 11=95780971304118053647396689196894323976171195136475136 from rfl) ‹_› (YW _) (Y0 _)
  refine Ql (congrArg (Value.int .u64) (Jb (ZI (ZI (ZI ww))))) ⟨rfl,⟨rfl,?_⟩⟩
  have ww:=Qn a 3
  refine ⟨rfl,Ql (congrArg (Value.int .u64) (Zt ww.1)) (Ql (congrArg (Value.int .i64) (Kg _)) (fun b26=>QG (Zv QP 101 x25 (Nat.le_trans (Nat.le_of_eq q12.2.1) (by decide)) b26 1 (.int .i64 ((Qb a 3)%65536)) rfl) (ZU _) fun x27 h13=> ?_))⟩
  rw [Zd] at h13
  have q13:=K9 (x:=((Qb a 3)%65536)) q12 (show Ku 12=6277101735386680763835789423207666416102355444464034512896 from rfl) ‹_› (YW _) (Y0 _)
  refine Ql (congrArg (Value.int .u64) (Jb ww)) ⟨rfl,Ql (congrArg (Value.int .u64) (Zt (ZI ww).1)) (Ql (congrArg (Value.int .i64) (Kg _)) (fun b28=>QG (Zv QP 101 x27 (Nat.le_trans (Nat.le_of_eq q13.2.1) (by decide)) b28 1 (.int .i64 (((Qb a 3)/65536)%65536)) rfl) (ZU _) fun x29 h14=> ?_))⟩
  rw [Zd] at h14
  have q14:=K9 (x:=(((Qb a 3)/65536)%65536)) q13 (show Ku 13=411376139330301510538742295639337626245683966408394965837152256 from rfl) ‹_› (YW _) (Y0 _)
  refine Ql (congrArg (Value.int .u64) (Jb (ZI ww))) ⟨rfl,Ql (congrArg (Value.int .u64) (Zt (ZI (ZI ww)).1)) (Ql (congrArg (Value.int .i64) (Kg _)) (fun b30=>QG (Zv QP 101 x29 (Nat.le_trans (Nat.le_of_eq q14.2.1) (by decide)) b30 1 (.int .i64 ((((Qb a 3)/65536)/65536)%65536)) rfl) (ZU _) fun x31 h15=> ?_))⟩
  rw [Zd] at h15
  have q15:=K9 (x:=((((Qb a 3)/65536)/65536)%65536)) q14 (show Ku 14=26959946667150639794667015087019630673637144422540572481103610249216 from rfl) ‹_› (YW _) (Y0 _)
  refine Ql (congrArg (Value.int .u64) (Jb (ZI (ZI ww)))) ⟨rfl,Ql (congrArg (Value.int .u64) (Zt (ZI (ZI (ZI ww))).1)) (Ql (congrArg (Value.int .i64) (Kg _)) (fun b32=>QG (Zv QP 101 x31 (Nat.le_trans (Nat.le_of_eq q15.2.1) (by decide)) b32 1 (.int .i64 (((((Qb a 3)/65536)/65536)/65536)%65536)) rfl) (ZU _) fun x33 h16=> ?_))⟩
  rw [Zd] at h16
  have q16:=K9 (x:=(((((Qb a 3)/65536)/65536)/65536)%65536)) q15 (show Ku 15=1766847064778384329583297500742918515827483896875618958121606201292619776 from rfl) ‹_› (YW _) (Y0 _)
  refine Ql (congrArg (Value.int .u64) (Jb (ZI (ZI (ZI ww))))) ⟨rfl,⟨rfl,?_⟩⟩
  obtain ⟨ok16,ql,hq⟩:=q16
  clear q0 q1 q2 q3 q4 q5 q6 q7 q8 q9 q10 q11 q12 q13 q14 q15
  refine J1 x33 (fun x34 rh17_ h17=> ?_)
  unfold GN
  have T:KW (dg x33) (dg x34):=by first | exact And.right ‹_› | assumption
  have w0:=VT (Qn a 0)
  have w1:=VT (Qn a 1)
  have w2:=VT (Qn a 2)
  have w3:=VT (Qn a 3)
  have ea:=qi a
  rw [Qc r_a] at ea
  have hn:nv (dg x34)=a:=by
    rw [T.eq,hq]
    refine Eq.trans ?_ ea.symm
    clear hq ea
    omega
  exact ⟨_,⟨by assumption,by rw [Qc r_a];exact hn,T.canon,QaS (Qr.dig ‹_›) T.canon hn r_a⟩,rfl,rfl,trivial⟩
abbrev ZA (a:Int) (KK:QK->Prop):Prop:=xc a (fun za zh zv zu zp=>Ze Tryz.prog 80 za zh QK zv zu zp KK)
theorem ZN (a:Int) {KK:QK->Prop} (kont: ∀J:QK,Qr J->(nv (dg J)=a/\Zj (dg J)/\(dg J).length<=16)->KK J) (r_a:R4 a:=by assumption):ZA a KK:=QH (QdN a r_a) (QaT (by first | exact Qu _ | exact r_a)) fun J hz=>by
  obtain ⟨rhz_,hz⟩:=hz
  try simp only [Qc (n:=a) r_a] at hz
  exact kont J rhz_ hz
def xI:List Value->List Qf->ZB:=fun vs hs=>⟨QK×QK,fun J=> .tuple #[sv J.1,sv J.2],fun J=> [(Qh hs 0),(Qh hs 1),(ss 3 J.1),(ss 3 J.2)],fun J=>Qr J.1/\Qr J.2/\nv (dg J.1)=nv (X6 (Qd vs 1) (Qh hs 0))/nv (X6 (Qd vs 2) (Qh hs 1))/\nv (dg J.2)=nv (X6 (Qd vs 1) (Qh hs 0))%nv (X6 (Qd vs 2) (Qh hs 1))/\Zj (dg J.1)/\Zj (dg J.2)⟩
abbrev GK (a b:QK) (zv:Value) (zs0:Qf) (zs1:Qf) (zs2:Qf) (zs3:Qf):Prop:= ∃J:QK×QK,(Qr J.1/\Qr J.2/\nv (dg J.1)=nv (X6 (sv a) (ss 3 a))/nv (X6 (sv b) (ss 3 b))/\nv (dg J.2)=nv (X6 (sv a) (ss 3 a))%nv (X6 (sv b) (ss 3 b))/\Zj (dg J.1)/\Zj (dg J.2))/\zv= .tuple #[sv J.1,sv J.2]/\zs0=(ss 3 a)/\zs1=(ss 3 b)/\zs2=(ss 3 J.1)/\zs3=(ss 3 J.2)/\True
abbrev xq (a b:QK) (zF:SF (QK×QK)):Prop:=zF #[sv a,sv b] [(ss 3 a),(ss 3 b)] (fun J=> .tuple #[sv J.1,sv J.2]) (fun J=> [(ss 3 a),(ss 3 b),(ss 3 J.1),(ss 3 J.2)]) (fun J=>(Qr J.1/\Qr J.2/\nv (dg J.1)=nv (X6 (sv a) (ss 3 a))/nv (X6 (sv b) (ss 3 b))/\nv (dg J.2)=nv (X6 (sv a) (ss 3 a))%nv (X6 (sv b) (ss 3 b))/\Zj (dg J.1)/\Zj (dg J.2)))
set_option maxHeartbeats 2000000 in
theorem gG (a b:QK):xq a b (fun za zh zv zu zp=>QB Tryz.prog 57 none 2000 none (Qk Tryz.f78) (.reg [S0,S0] (.reg [S0, .eq (Xa), .specw [] [20] (Qc0 3 (ii 0)),S0] (.reg [S0] (.reg [S0, .eq (Xa), .gen [] (fun vs=>Sx.one (ii (ci (Qd vs 0) - ci (Qd vs 1))) vs),S0] (.inv (Nat×QK×QK) (fun J=> [(0,sv a),(1,sv b),(6,sv J.2.1),(7,sv J.2.2),(8,ii ((J.1:Int) - 1))]) (fun J=> [(0,(ss 3 a)),(1,(ss 3 b)),(20,(ss 3 J.2.1)),(22,(ss 3 J.2.2))]) (fun J=>B0 (dg a) (dg b) J.1 (dg J.2.1) (dg J.2.2)/\Qr J.2.1/\Qr J.2.2) (fun J=>J.1) (fun x2=> .reg [S0,S0] (.cond (.reg [S0] (.inv (Nat×QK×QK) (fun J=> [(0,sv a),(1,sv b),(6,sv J.2.1),(7,sv J.2.2),(8,ii ((x2.1:Int) - 1)),(9,ii (un J.1))]) (fun J=> [(0,(ss 3 a)),(1,(ss 3 b)),(20,(ss 3 J.2.1)),(22,(ss 3 J.2.2))]) (fun J=>Uy (dg a) (dg b) (x2.1 - 1) J.1 (dg J.2.1) (dg J.2.2)/\Qr J.2.1/\Qr J.2.2) (fun J=>J.1) (fun x3=> .reg [S0,S0] (.cond (.reg [S0,S0, .callw [22] [21,22] v8,S0] (.reg [S0,S0, .eq (K7), .specr [0] VD,S0, .eq (fun vs=>ii (ci (Qd vs 0)/ci (Qd vs 1))), .gen [] (fun vs=>Sx.one (ii (ci (Qd vs 0)%2)) vs),S0] (.cond (.reg [S0, .sem [.nw 3], .callw [22,3] [21,3,22] Yb,S0] (.reg [S0,S0, .callr [22,1] Yh,S0] (.cond (.reg [S0,S0, .callw [22,1] [21,1,22] xG,S0] (.reg [S0,S0,S0,S0, .eq (K7), .specr [20] VD,S0, .gen [] (fun vs=>Sx.one (ii (ci (Qd vs 0)+ci (Qd vs 1))) vs), .eq (K7), .specw [20] [20] wS] (.reg [S0, .gen [] (fun vs=>Sx.one (ii (ci (Qd vs 0)/2)) vs),S0] (.done)))) (.reg [S0, .gen [] (fun vs=>Sx.one (ii (ci (Qd vs 0)/2)) vs),S0] (.done))))) (.reg [S0,S0, .callr [22,1] Yh,S0] (.cond (.reg [S0,S0, .callw [22,1] [21,1,22] xG,S0] (.reg [S0,S0,S0,S0, .eq (K7), .specr [20] VD,S0, .gen [] (fun vs=>Sx.one (ii (ci (Qd vs 0)+ci (Qd vs 1))) vs), .eq (K7), .specw [20] [20] wS] (.reg [S0, .gen [] (fun vs=>Sx.one (ii (ci (Qd vs 0)/2)) vs),S0] (.done)))) (.reg [S0, .gen [] (fun vs=>Sx.one (ii (ci (Qd vs 0)/2)) vs),S0] (.done))))))) (.reg [S0, .gen [] (fun vs=>Sx.one (ii (ci (Qd vs 0) - ci (Qd vs 1))) vs),S0] (.done)))))) (.reg [S0, .callw [20] [20] JV,S0,S0,S0] (.done)))))))))
    (Q2 za zh) (Q8 Tryz.prog Tryz.f78 [] [0,1,20,22] (X:=QK×QK) zv zu zp))=
    ((Qg Tryz.prog (vS (Builtin.len_ #[101] 3 #[sv a])) (ii ((vlen (sv a):Nat):Int)))/\Xc Tryz.prog (vS (Instr.makeSlice 101 (ii ((vlen (sv a):Nat):Int)) (ii ((vlen (sv a):Nat):Int)))) [] QK (fun J=>sv J) (fun J=> [(ss 3 J)]) (fun J=>QS J=List.replicate (Int.toNat ((vlen (sv a):Nat):Int)) (ii 0)) (fun x1=>(Qg Tryz.prog (vS (Builtin.len_ #[101] 3 #[sv a])) (ii ((vlen (sv a):Nat):Int)))/\gE (ii (IntKind.i64.wrap (((vlen (sv a):Nat):Int) - 1))) (ii (((vlen (sv a):Nat):Int) - 1)) ((∃J:Nat×QK×QK,(B0 (dg a) (dg b) J.1 (dg J.2.1) (dg J.2.2)/\Qr J.2.1/\Qr J.2.2)/\sv a=sv a/\sv b=sv b/\sv x1=sv J.2.1/\Value.slice none 0 0=sv J.2.2/\ii (((vlen (sv a):Nat):Int) - 1)=ii ((J.1:Int) - 1)/\(ss 3 a)=(ss 3 a)/\(ss 3 b)=(ss 3 b)/\(ss 3 x1)=(ss 3 J.2.1)/\Qf.free=(ss 3 J.2.2)/\True)/\ ∀x2:Nat×QK×QK,∀jx2:Nat->Value,(B0 (dg a) (dg b) x2.1 (dg x2.2.1) (dg x2.2.2)/\Qr x2.2.1/\Qr x2.2.2)->((decide (((x2.1:Int) - 1)≥(0:Int)))=true->(∃J:Nat×QK×QK,(Uy (dg a) (dg b) (x2.1 - 1) J.1 (dg J.2.1) (dg J.2.2)/\Qr J.2.1/\Qr J.2.2)/\sv a=sv a/\sv b=sv b/\sv x2.2.1=sv J.2.1/\sv x2.2.2=sv J.2.2/\ii ((x2.1:Int) - 1)=ii ((x2.1:Int) - 1)/\ii 32768=ii (un J.1)/\(ss 3 a)=(ss 3 a)/\(ss 3 b)=(ss 3 b)/\(ss 3 x2.2.1)=(ss 3 J.2.1)/\(ss 3 x2.2.2)=(ss 3 J.2.2)/\True)/\ ∀x3:Nat×QK×QK,∀jx3:Nat->Value,(Uy (dg a) (dg b) (x2.1 - 1) x3.1 (dg x3.2.1) (dg x3.2.2)/\Qr x3.2.1/\Qr x3.2.2)->((decide ((un x3.1)>(0:Int)))=true->Ze Tryz.prog 82 #[sv x3.2.2,sv x3.2.2] [(ss 3 x3.2.2)] QK (fun J=>sv J) (fun J=> [(ss 3 x3.2.2),(ss 3 J)]) (fun J=>Qr J/\nv (dg J)=nv (X6 (sv x3.2.2) (ss 3 x3.2.2))+nv (X6 (sv x3.2.2) (ss 3 x3.2.2))/\Zj (dg J)) (fun x4=>(Qg Tryz.prog (vS (Instr.indexAt 101 (sv a) (ii ((x2.1:Int) - 1)))) (.pointer (some ⟨(QJ (sv a)),(Int.toNat ((x2.1:Int) - 1)),none⟩)))/\Za Tryz.prog (vS (Instr.loadAt 3 (.pointer (some ⟨(QJ (sv a)),(Int.toNat ((x2.1:Int) - 1)),none⟩)))) [(ss 3 a)] Int (fun J=>ii J) (fun J=>(Qm (ss 3 a))[(Int.toNat ((x2.1:Int) - 1))]? =some (ii J)) (fun x5=>(Qg Tryz.prog (Q0 .quo 3 (ii x5) (ii (un x3.1))) (ii (x5/(un x3.1))))/\gE (ii (Int.tmod (x5/(un x3.1)) 2)) (ii ((x5/(un x3.1))%2)) (((((x5/(un x3.1))%2)==(1:Int))=true-> ∀b6:Nat,Kq x4 (QK.mk b6 [ii 1] []) (fun x7=>Kv x7 b (fun x8=>((decide (x8≥(0:Int)))=true->Uo x7 b (fun x9=>(Qg Tryz.prog (vS (Instr.indexAt 101 (sv x3.2.1) (ii ((x2.1:Int) - 1)))) (.pointer (some ⟨(QJ (sv x3.2.1)),(Int.toNat ((x2.1:Int) - 1)),none⟩)))/\Za Tryz.prog (vS (Instr.loadAt 3 (.pointer (some ⟨(QJ (sv x3.2.1)),(Int.toNat ((x2.1:Int) - 1)),none⟩)))) [(ss 3 x3.2.1)] Int (fun J=>ii J) (fun J=>(Qm (ss 3 x3.2.1))[(Int.toNat ((x2.1:Int) - 1))]? =some (ii J)) (fun x10=>gE (ii (IntKind.i64.wrap (x10+(un x3.1)))) (ii (x10+(un x3.1))) ((Qg Tryz.prog (vS (Instr.indexAt 101 (sv x3.2.1) (ii ((x2.1:Int) - 1)))) (.pointer (some ⟨(QJ (sv x3.2.1)),(Int.toNat ((x2.1:Int) - 1)),none⟩)))/\Xc Tryz.prog (KJ (Instr.storeAt 3 (.pointer (some ⟨(QJ (sv x3.2.1)),(Int.toNat ((x2.1:Int) - 1)),none⟩)) (ii (x10+(un x3.1))))) [(ss 3 x3.2.1)] Unit (fun _=> .tuple #[]) (fun _=> [(Wl (ss 3 x3.2.1) (Int.toNat ((x2.1:Int) - 1)) (ii (x10+(un x3.1))))]) (fun _=>True) (fun _=>gE (ii (IntKind.i64.wrap (Int.tdiv (un x3.1) 2))) (ii ((un x3.1)/2)) (∃I:Nat×QK×QK,(Uy (dg a) (dg b) (x2.1 - 1) I.1 (dg I.2.1) (dg I.2.2)/\Qr I.2.1/\Qr I.2.2)/\I.1<x3.1/\sv a=sv a/\sv b=sv b/\sv x3.2.1=sv I.2.1/\sv x9=sv I.2.2/\ii ((x2.1:Int) - 1)=ii ((x2.1:Int) - 1)/\ii ((un x3.1)/2)=ii (un I.1)/\(ss 3 a)=(ss 3 a)/\(ss 3 b)=(ss 3 b)/\(Wl (ss 3 x3.2.1) (Int.toNat ((x2.1:Int) - 1)) (ii (x10+(un x3.1))))=(ss 3 I.2.1)/\(ss 3 x9)=(ss 3 I.2.2)/\True))))))/\((decide (x8≥(0:Int)))=false->gE (ii (IntKind.i64.wrap (Int.tdiv (un x3.1) 2))) (ii ((un x3.1)/2)) (∃I:Nat×QK×QK,(Uy (dg a) (dg b) (x2.1 - 1) I.1 (dg I.2.1) (dg I.2.2)/\Qr I.2.1/\Qr I.2.2)/\I.1<x3.1/\sv a=sv a/\sv b=sv b/\sv x3.2.1=sv I.2.1/\sv x7=sv I.2.2/\ii ((x2.1:Int) - 1)=ii ((x2.1:Int) - 1)/\ii ((un x3.1)/2)=ii (un I.1)/\(ss 3 a)=(ss 3 a)/\(ss 3 b)=(ss 3 b)/\(ss 3 x3.2.1)=(ss 3 I.2.1)/\(ss 3 x7)=(ss 3 I.2.2)/\True)))))/\((((x5/(un x3.1))%2)==(1:Int))=false->Kv x4 b (fun x11=>((decide (x11≥(0:Int)))=true->Uo x4 b (fun x12=>(Qg Tryz.prog (vS (Instr.indexAt 101 (sv x3.2.1) (ii ((x2.1:Int) - 1)))) (.pointer (some ⟨(QJ (sv x3.2.1)),(Int.toNat ((x2.1:Int) - 1)),none⟩)))/\Za Tryz.prog (vS (Instr.loadAt 3 (.pointer (some ⟨(QJ (sv x3.2.1)),(Int.toNat ((x2.1:Int) - 1)),none⟩)))) [(ss 3 x3.2.1)] Int (fun J=>ii J) (fun J=>(Qm (ss 3 x3.2.1))[(Int.toNat ((x2.1:Int) - 1))]? =some (ii J)) (fun x13=>gE (ii (IntKind.i64.wrap (x13+(un x3.1)))) (ii (x13+(un x3.1))) ((Qg Tryz.prog (vS (Instr.indexAt 101 (sv x3.2.1) (ii ((x2.1:Int) - 1)))) (.pointer (some ⟨(QJ (sv x3.2.1)),(Int.toNat ((x2.1:Int) - 1)),none⟩)))/\Xc Tryz.prog (KJ (Instr.storeAt 3 (.pointer (some ⟨(QJ (sv x3.2.1)),(Int.toNat ((x2.1:Int) - 1)),none⟩)) (ii (x13+(un x3.1))))) [(ss 3 x3.2.1)] Unit (fun _=> .tuple #[]) (fun _=> [(Wl (ss 3 x3.2.1) (Int.toNat ((x2.1:Int) - 1)) (ii (x13+(un x3.1))))]) (fun _=>True) (fun _=>gE (ii (IntKind.i64.wrap (Int.tdiv (un x3.1) 2))) (ii ((un x3.1)/2)) (∃I:Nat×QK×QK,(Uy (dg a) (dg b) (x2.1 - 1) I.1 (dg I.2.1) (dg I.2.2)/\Qr I.2.1/\Qr I.2.2)/\I.1<x3.1/\sv a=sv a/\sv b=sv b/\sv x3.2.1=sv I.2.1/\sv x12=sv I.2.2/\ii ((x2.1:Int) - 1)=ii ((x2.1:Int) - 1)/\ii ((un x3.1)/2)=ii (un I.1)/\(ss 3 a)=(ss 3 a)/\(ss 3 b)=(ss 3 b)/\(Wl (ss 3 x3.2.1) (Int.toNat ((x2.1:Int) - 1)) (ii (x13+(un x3.1))))=(ss 3 I.2.1)/\(ss 3 x12)=(ss 3 I.2.2)/\True))))))/\((decide (x11≥(0:Int)))=false->gE (ii (IntKind.i64.wrap (Int.tdiv (un x3.1) 2))) (ii ((un x3.1)/2)) (∃I:Nat×QK×QK,(Uy (dg a) (dg b) (x2.1 - 1) I.1 (dg I.2.1) (dg I.2.2)/\Qr I.2.1/\Qr I.2.2)/\I.1<x3.1/\sv a=sv a/\sv b=sv b/\sv x3.2.1=sv I.2.1/\sv x4=sv I.2.2/\ii ((x2.1:Int) - 1)=ii ((x2.1:Int) - 1)/\ii ((un x3.1)/2)=ii (un I.1)/\(ss 3 a)=(ss 3 a)/\(ss 3 b)=(ss 3 b)/\(ss 3 x3.2.1)=(ss 3 I.2.1)/\(ss 3 x4)=(ss 3 I.2.2)/\True))))))))/\((decide ((un x3.1)>(0:Int)))=false->gE (ii (IntKind.i64.wrap (((x2.1:Int) - 1) - 1))) (ii (((x2.1:Int) - 1) - 1)) (∃I:Nat×QK×QK,(B0 (dg a) (dg b) I.1 (dg I.2.1) (dg I.2.2)/\Qr I.2.1/\Qr I.2.2)/\I.1<x2.1/\sv a=sv a/\sv b=sv b/\sv x3.2.1=sv I.2.1/\sv x3.2.2=sv I.2.2/\ii (((x2.1:Int) - 1) - 1)=ii ((I.1:Int) - 1)/\(ss 3 a)=(ss 3 a)/\(ss 3 b)=(ss 3 b)/\(ss 3 x3.2.1)=(ss 3 I.2.1)/\(ss 3 x3.2.2)=(ss 3 I.2.2)/\True)))/\((decide (((x2.1:Int) - 1)≥(0:Int)))=false->Jh x2.2.1 (fun x14=>GK a b (Value.tuple #[sv x14,sv x2.2.2]) (ss 3 a) (ss 3 b) (ss 3 x14) (ss 3 x2.2.2)))))):=by kernel_rfl
set_option maxHeartbeats 2000000 in
theorem Qdb (a b : QK) (r_a : Qr a) (r_b : Qr b) (la : (dg a).length <= 65000) (lb : (dg b).length <= 65000) (hb : 0 < nv (dg b)) : xq a b (fun za zh zv zu zp => QC Tryz.prog 78 za zh (QK × QK) zv zu zp) := by
  refine Qx (c:=Qk Tryz.f78) (n:=57) (fn:=Tryz.f78) QF Tryz.func78 (by kernel_rfl) (by kernel_rfl) (by kernel_rfl) 2000 _ [] [0,1,20,22] rfl rfl (Eq.mpr (gG a b) ?_)
  have d_a:=Zu a 3
  have d_b:=Zu b 3
  have e_a:=QW a
  have e_b:=QW b
  refine ⟨JP QP 3 a,QG (QfY QP .i64 ((vlen (sv a):Nat):Int) (by omega) (by omega)) (gg (e:=3) _ _) fun x1 h1=>⟨JP QP 3 a,Ql (congrArg (Value.int .i64) (Qz _ (by omega) (by omega))) ⟨?_,fun x2 jx2 h2=> ?_⟩⟩⟩
  · have q:=Qr.zeros (y:=x1) ‹_›
    have eq:Int.toNat ((vlen (sv a):Nat):Int)=(dg a).length:=by omega
    rw [eq] at q
    exact ⟨((dg a).length,x1,QK.nil),⟨by rw [q.2];exact QbY _ _ hb,q.1,Qr.nil⟩,rfl,rfl,rfl,rfl,congrArg (Value.int .i64) (by dsimp only;omega),rfl,rfl,rfl,rfl,trivial⟩
  obtain ⟨D,okq,okl⟩:=h2
  have l1:=D.le;have l2:=D.len
  have da:=r_a.dig.dgt (Int.toNat ((x2.1:Int) - 1))
  refine ⟨fun h3=> ?_,fun h3=> ?_⟩
  · refine ⟨?_, fun x3 jx3 h4 => ?_⟩
    · have D' :B0 (dg a) (dg b) (x2.1 - 1+1) (dg x2.2.1) (dg x2.2.2):=by
        rw [show x2.1 - 1+1=x2.1 from by simp only [X3] at *;omega];exact D
      exact ⟨(16,x2.2),⟨bU r_a.dig okq.dig D',okq,okl⟩,rfl,rfl,rfl,rfl,rfl,rfl,rfl,rfl,rfl,rfl,trivial⟩
    obtain ⟨N,okq',okl'⟩:=h4
    have k16:=N.k16;have n2:=N.len;have n3:=N.lt;have n4:=N.li
    obtain ⟨u0,u1,u2⟩:=gu k16
    have et:Int.toNat ((x2.1:Int) - 1)=x2.1 - 1:=by omega
    have ll:=Qdg okl'.dig N.canon r_b.dig n3
    have da:=r_a.dig.dgt (x2.1 - 1)
    have dq:=okq'.dig.dgt (x2.1 - 1)
    refine ⟨fun h5=> ?_,fun h5=> ?_⟩
    · have hi:0<x2.1:=by
        simp only [X3] at *
        omega
      have hk:0<x3.1:=by
        simp only [X3] at *
        omega
      have hnz:un x3.1≠0:=by omega
      refine QH (QbK x3.2.2 (by first | assumption | exact ZW _ _ (by decide)) (by omega)) (VP (by rw [Zu x3.2.2];exact Int.add_nonneg (ZJ (Qr.dig (by first | assumption | exact ZW _ _ (by decide)))) (ZJ (Qr.dig (by first | assumption | exact ZW _ _ (by decide)))))) fun x4 h6=> ?_
      simp only [Zu] at h6
      obtain ⟨rh6_,h6⟩:=h6
      have A1:=h6
      have lA1:(dg x4).length<=(dg b).length+3:=Gn (Qr.dig ‹_›) A1.2 r_b.dig (by rw [A1.1];omega)
      have da' :=r_a.dig.dgt (Int.toNat ((x2.1:Int) - 1))
      refine ⟨qe QP a .i64 ((x2.1:Int) - 1) (by omega) (by rw [←ZE];omega),Qy (VB (e:=3) a 3 YM (Int.toNat ((x2.1:Int) - 1)) r_a (by omega)) (JM (e:=3) a (Int.toNat ((x2.1:Int) - 1)) r_a (by omega)) fun x5 h7=> ?_⟩
      replace h7:=yX (e:=3) a (Int.toNat ((x2.1:Int) - 1)) r_a (by omega) h7
      refine ⟨Qg.to (QhH (hnz)) (congrArg (Value.int .i64) (Qgx k16 hk (by omega) (by omega))),Ql (congrArg (Value.int .i64) (Zt (Int.ediv_nonneg (by omega) u0))) ⟨fun h8=> ?_,fun h8=> ?_⟩⟩
      · intro b6
        refine Yj x4 (QK.mk b6 [.int .i64 1] []) (fun x7 rh9_ h9=> ?_) (r_b:=ZW b6 [1] (by decide)) (lb:=Nat.le_of_ble_eq_true rfl)
        have A2:=h9
        have lA2:(dg x7).length<=(dg b).length+3:=Gn (Qr.dig ‹_›) A2.2 r_b.dig (by rw [A2.1,A1.1,show nv (dg (QK.mk _ [Value.int .i64 1] []))=1 from rfl];omega)
        refine Yf x7 b (fun x8 h10=> ?_)
        have hC:=h10
        refine ⟨fun h11=> ?_,fun h11=> ?_⟩
        · have hge:=zY hC (of_decide_eq_true ‹_›)
          refine jR x7 b (fun x9 rh12_ h12=> ?_) (hle:=zY hC (of_decide_eq_true ‹_›))
          have S1:=h12
          have dq' :=okq'.dig.dgt (Int.toNat ((x2.1:Int) - 1))
          refine ⟨qe QP x3.2.1 .i64 ((x2.1:Int) - 1) (by omega) (by rw [←ZE];omega),Qy (VB (e:=3) x3.2.1 3 YM (Int.toNat ((x2.1:Int) - 1)) okq' (by omega)) (JM (e:=3) x3.2.1 (Int.toNat ((x2.1:Int) - 1)) okq' (by omega)) fun x10 h13=> ?_⟩
          replace h13:=yX (e:=3) x3.2.1 (Int.toNat ((x2.1:Int) - 1)) okq' (by omega) h13
          refine Ql (congrArg (Value.int .i64) (Qz _ (by omega) (by omega))) ⟨qe QP x3.2.1 .i64 ((x2.1:Int) - 1) (by omega) (by rw [←ZE];omega),QG (Qe9 (e:=3) x3.2.1 3 DW (Int.toNat ((x2.1:Int) - 1)) (.int .i64 (x10+(un x3.1))) rfl rfl (by rw [←ZE];omega)) (⟨(),trivial⟩) fun _ _=>Ql (congrArg (Value.int .i64) (kz u0 (by omega))) ?_⟩
          have hx0:0<x3.1:=by
            simp only [X3] at *
            omega
          obtain ⟨m,hm⟩: ∃m,x3.1=m+1:=⟨x3.1 - 1,by omega⟩
          have hu:un x3.1=2^m:=by rw [hm];exact kB (by omega)
          have hh:un x3.1/2=un m:=by rw [hm];exact W2 (by omega)
          have N' :Uy (dg a) (dg b) (x2.1 - 1) (m+1) (dg x3.2.1) (dg x3.2.2):=hm▸N
          have hbit:dgt (dg a) (x2.1 - 1)/2^m%2=1:=by
            have hb2:=Int.emod_two_eq (dgt (dg a) (x2.1 - 1)/2^m)
            rw [←hu] at hb2 ⊢
            have hz:=eq_of_beq h8
            rw [h7,et] at hz
            omega
          have hM:nv (dg x7)=2*nv (dg x3.2.2)+dgt (dg a) (x2.1 - 1)/2^m%2:=by
            rw [hbit]
            rw [A2.1,A1.1,show nv (dg (QK.mk _ [Value.int .i64 1] []))=1 from rfl];omega
          have hge:nv (dg b)<=nv (dg x7):=zY hC (of_decide_eq_true h11)
          have q1:=vV hb N' hM S1.1 S1.2
          have hr:=F3 okq'.dig N'
          have p:=okq'.set (x2.1 - 1) hr.1 hr.2
          rw [←p.2] at q1
          exact ⟨(m,x3.2.1.set (x2.1 - 1) (.int .i64 (dgt (dg x3.2.1) (x2.1 - 1)+2^m)),x9),⟨q1,p.1,by assumption⟩,by dsimp only;omega,rfl,rfl,(Bi _ _ _).symm,rfl,rfl,congrArg (Value.int .i64) hh,rfl,rfl,by rw [et,hu,h13,et];exact B9 _ _ _ _ (by rw [←ZE];omega),rfl,trivial⟩
        refine Ql (congrArg (Value.int .i64) (kz u0 (by omega))) ?_
        have hx0:0<x3.1:=by
          simp only [X3] at *
          omega
        obtain ⟨m,hm⟩: ∃m,x3.1=m+1:=⟨x3.1 - 1,by omega⟩
        have hu:un x3.1=2^m:=by rw [hm];exact kB (by omega)
        have hh:un x3.1/2=un m:=by rw [hm];exact W2 (by omega)
        have N' :Uy (dg a) (dg b) (x2.1 - 1) (m+1) (dg x3.2.1) (dg x3.2.2):=hm▸N
        have hbit:dgt (dg a) (x2.1 - 1)/2^m%2=1:=by
          have hb2:=Int.emod_two_eq (dgt (dg a) (x2.1 - 1)/2^m)
          rw [←hu] at hb2 ⊢
          have hz:=eq_of_beq h8
          rw [h7,et] at hz
          omega
        have hM:nv (dg x7)=2*nv (dg x3.2.2)+dgt (dg a) (x2.1 - 1)/2^m%2:=by
          rw [hbit]
          rw [A2.1,A1.1,show nv (dg (QK.mk _ [Value.int .i64 1] []))=1 from rfl];omega
        have hlt:nv (dg x7)<nv (dg b):=gk hC (of_decide_eq_false h11)
        have q1:=Qa9 N' hM A2.2 hlt
        exact ⟨(m,x3.2.1,x7),⟨q1,by assumption,by assumption⟩,by dsimp only;omega,rfl,rfl,rfl,rfl,rfl,congrArg (Value.int .i64) hh,rfl,rfl,rfl,rfl,trivial⟩
      refine Yf x4 b (fun x11 h14=> ?_)
      have hC:=h14
      refine ⟨fun h15=> ?_,fun h15=> ?_⟩
      · have hge:=zY hC (of_decide_eq_true ‹_›)
        refine jR x4 b (fun x12 rh16_ h16=> ?_) (hle:=zY hC (of_decide_eq_true ‹_›))
        have S1:=h16
        have dq' :=okq'.dig.dgt (Int.toNat ((x2.1:Int) - 1))
        refine ⟨qe QP x3.2.1 .i64 ((x2.1:Int) - 1) (by omega) (by rw [←ZE];omega),Qy (VB (e:=3) x3.2.1 3 YM (Int.toNat ((x2.1:Int) - 1)) okq' (by omega)) (JM (e:=3) x3.2.1 (Int.toNat ((x2.1:Int) - 1)) okq' (by omega)) fun x13 h17=> ?_⟩
        replace h17:=yX (e:=3) x3.2.1 (Int.toNat ((x2.1:Int) - 1)) okq' (by omega) h17
        refine Ql (congrArg (Value.int .i64) (Qz _ (by omega) (by omega))) ⟨qe QP x3.2.1 .i64 ((x2.1:Int) - 1) (by omega) (by rw [←ZE];omega),QG (Qe9 (e:=3) x3.2.1 3 DW (Int.toNat ((x2.1:Int) - 1)) (.int .i64 (x13+(un x3.1))) rfl rfl (by rw [←ZE];omega)) (⟨(),trivial⟩) fun _ _=>Ql (congrArg (Value.int .i64) (kz u0 (by omega))) ?_⟩
        have hx0:0<x3.1:=by
          simp only [X3] at *
          omega
        obtain ⟨m,hm⟩: ∃m,x3.1=m+1:=⟨x3.1 - 1,by omega⟩
        have hu:un x3.1=2^m:=by rw [hm];exact kB (by omega)
        have hh:un x3.1/2=un m:=by rw [hm];exact W2 (by omega)
        have N' :Uy (dg a) (dg b) (x2.1 - 1) (m+1) (dg x3.2.1) (dg x3.2.2):=hm▸N
        have hbit:dgt (dg a) (x2.1 - 1)/2^m%2=0:=by
          have hb2:=Int.emod_two_eq (dgt (dg a) (x2.1 - 1)/2^m)
          rw [←hu] at hb2 ⊢
          have hz:=ne_of_beq_false h8
          rw [h7,et] at hz
          omega
        have hM:nv (dg x4)=2*nv (dg x3.2.2)+dgt (dg a) (x2.1 - 1)/2^m%2:=by
          rw [hbit]
          rw [A1.1];omega
        have hge:nv (dg b)<=nv (dg x4):=zY hC (of_decide_eq_true h15)
        have q1:=vV hb N' hM S1.1 S1.2
        have hr:=F3 okq'.dig N'
        have p:=okq'.set (x2.1 - 1) hr.1 hr.2
        rw [←p.2] at q1
        exact ⟨(m,x3.2.1.set (x2.1 - 1) (.int .i64 (dgt (dg x3.2.1) (x2.1 - 1)+2^m)),x12),⟨q1,p.1,by assumption⟩,by dsimp only;omega,rfl,rfl,(Bi _ _ _).symm,rfl,rfl,congrArg (Value.int .i64) hh,rfl,rfl,by rw [et,hu,h17,et];exact B9 _ _ _ _ (by rw [←ZE];omega),rfl,trivial⟩
      refine Ql (congrArg (Value.int .i64) (kz u0 (by omega))) ?_
      have hx0:0<x3.1:=by
        simp only [X3] at *
        omega
      obtain ⟨m,hm⟩: ∃m,x3.1=m+1:=⟨x3.1 - 1,by omega⟩
      have hu:un x3.1=2^m:=by rw [hm];exact kB (by omega)
      have hh:un x3.1/2=un m:=by rw [hm];exact W2 (by omega)
      have N' :Uy (dg a) (dg b) (x2.1 - 1) (m+1) (dg x3.2.1) (dg x3.2.2):=hm▸N
      have hbit:dgt (dg a) (x2.1 - 1)/2^m%2=0:=by
        have hb2:=Int.emod_two_eq (dgt (dg a) (x2.1 - 1)/2^m)
        rw [←hu] at hb2 ⊢
        have hz:=ne_of_beq_false h8
        rw [h7,et] at hz
        omega
      have hM:nv (dg x4)=2*nv (dg x3.2.2)+dgt (dg a) (x2.1 - 1)/2^m%2:=by
        rw [hbit]
        rw [A1.1];omega
      have hlt:nv (dg x4)<nv (dg b):=gk hC (of_decide_eq_false h15)
      have q1:=Qa9 N' hM A1.2 hlt
      exact ⟨(m,x3.2.1,x4),⟨q1,by assumption,by assumption⟩,by dsimp only;omega,rfl,rfl,rfl,rfl,rfl,congrArg (Value.int .i64) hh,rfl,rfl,rfl,rfl,trivial⟩
    refine Ql (congrArg (Value.int .i64) (Qz _ (by omega) (by omega))) ?_
    have k0:x3.1=0:=by
      simp only [X3] at *
      omega
    have hpos:0<x2.1:=by
      simp only [X3] at *
      omega
    rw [k0] at N
    exact ⟨(x2.1 - 1,x3.2),⟨Qeo N,okq',okl'⟩,by dsimp only;omega,rfl,rfl,rfl,rfl,congrArg (Value.int .i64) (by dsimp only;omega),rfl,rfl,rfl,rfl,trivial⟩
  refine J1 x2.2.1 (fun x14 rh18_ h18=> ?_)
  unfold GK
  have T:KW (dg x2.2.1) (dg x14):=by first | exact And.right ‹_› | assumption
  have hn:x2.1=0:=by
    simp only [X3] at *
    omega
  rw [hn] at D
  have E:=QdK okl.dig D
  exact ⟨(x14,x2.2.2),⟨by assumption,okl,by rw [d_a,d_b];exact T.eq.trans E.1,by rw [d_a,d_b];exact E.2,T.canon,D.canon⟩,rfl,rfl,rfl,rfl,rfl,trivial⟩
abbrev UZ (a b:QK) (KK:(QK×QK)->Prop):Prop:=xq a b (fun za zh zv zu zp=>Ze Tryz.prog 78 za zh (QK×QK) zv zu zp KK)
theorem xt (a b:QK) {KK:(QK×QK)->Prop} (kont: ∀J:QK×QK,Qr J.1->Qr J.2->(nv (dg J.1)=nv (dg a)/nv (dg b)/\nv (dg J.2)=nv (dg a)%nv (dg b)/\Zj (dg J.1)/\Zj (dg J.2))->KK J) (r_a:Qr a:=by first | assumption | exact ZW _ _ (by decide)) (r_b:Qr b:=by first | assumption | exact ZW _ _ (by decide)) (la:(dg a).length<=65000:=by omega) (lb:(dg b).length<=65000:=by omega) (hb:0<nv (dg b):=by omega):UZ a b KK:=QH (Qdb a b r_a r_b la lb hb) (Qez (by rw [Zu a];exact ZJ (Qr.dig (r_a))) (by rw [Zu b];omega)) fun J hz=>by
  simp only [Zu] at hz
  obtain ⟨rhz_1,hz⟩:=hz
  obtain ⟨rhz_2,hz⟩:=hz
  exact kont J rhz_1 rhz_2 hz
def Vu:List Value->List Qf->ZB:=fun vs hs=>⟨Int×Bool,fun J=> .tuple #[vI J.1, .bool J.2],fun J=> [(Qh hs 0)],fun J=>R4 J.1/\J=XV (nv (X6 (Qd vs 1) (Qh hs 0)))⟩
abbrev xe (a:QK) (zv:Value) (zs0:Qf):Prop:= ∃J:Int×Bool,(R4 J.1/\J=XV (nv (X6 (sv a) (ss 3 a))))/\zv= .tuple #[vI J.1, .bool J.2]/\zs0=(ss 3 a)/\True
abbrev xF (a:QK) (zF:SF (Int×Bool)):Prop:=zF #[sv a] [(ss 3 a)] (fun J=> .tuple #[vI J.1, .bool J.2]) (fun J=> [(ss 3 a)]) (fun J=>(R4 J.1/\J=XV (nv (X6 (sv a) (ss 3 a)))))
set_option maxHeartbeats 2000000 in
theorem gB (a:QK):xF a (fun za zh zv zu zp=>QB Tryz.prog 34 none 2000 none (Qk Tryz.f81) (.reg [.sem [.nw 1],S0] (.reg [S0, .callw [0] [0] JV,S0] (.reg [S0, .eq (Xa),S0] (.cond (.reg [S0, .sem (Zq 4 1),S0] (.done)) (.reg [.sem [.nw 2]] (.reg [S0, .eq (Xa), .gen [] (fun vs=>Sx.one (ii (ci (Qd vs 0) - ci (Qd vs 1))) vs),S0] (.inv (Nat×QK×Nat×Nat) (fun J=> [(0,sv J.2.1),(4,pp J.2.2.1 0),(5,ii ((J.1:Int) - 1)),(2,pp J.2.2.2 0)]) (fun J=> [(0,(ss 3 J.2.1)),(2,bk J.2.2.1 #[uu (lb (dg J.2.1) J.1 0),uu (lb (dg J.2.1) J.1 1),uu (lb (dg J.2.1) J.1 2),uu (lb (dg J.2.1) J.1 3)] 35),(1,bk J.2.2.2 #[uu 0,uu 0,uu 0,uu 0] 35)]) (fun J=>J.1<=(dg J.2.1).length/\Qr J.2.1/\KW (dg a) (dg J.2.1)/\ss 3 J.2.1=ss 3 a/\(dg J.2.1).length<=16) (fun J=>J.1) (fun x4=> .reg [S0,S0] (.cond (.caseP (fun s=>decide (((ci (s.fr 5)))/4=0)) (.reg [S0, .gen [] (fun vs=>Sx.one (ii 0) vs),S0, .gen [] (fun vs=>Sx.one (ii 0) vs),S0, .sem [.rd 2], .gen [] (fun vs=>Sx.one (uu (ci (Qd vs 0)*ci (Qd vs 1))) vs),S0,S0, .eq (K7), .specr [0] VD, .gen [] (fun vs=>Sx.one (uu (ci (Qd vs 0))) vs), .gen [] (fun vs=>Sx.one (uu (ci (Qd vs 0)+ci (Qd vs 1))) vs),S0, .sem [.wr 2]] (.reg [S0, .gen [] (fun vs=>Sx.one (ii (ci (Qd vs 0) - ci (Qd vs 1))) vs),S0] (.done))) (.caseP (fun s=>decide (((ci (s.fr 5)))/4=1)) (.reg [S0, .gen [] (fun vs=>Sx.one (ii 1) vs),S0, .gen [] (fun vs=>Sx.one (ii 1) vs),S0, .sem [.rd 2], .gen [] (fun vs=>Sx.one (uu (ci (Qd vs 0)*ci (Qd vs 1))) vs),S0,S0, .eq (K7), .specr [0] VD, .gen [] (fun vs=>Sx.one (uu (ci (Qd vs 0))) vs), .gen [] (fun vs=>Sx.one (uu (ci (Qd vs 0)+ci (Qd vs 1))) vs),S0, .sem [.wr 2]] (.reg [S0, .gen [] (fun vs=>Sx.one (ii (ci (Qd vs 0) - ci (Qd vs 1))) vs),S0] (.done))) (.caseP (fun s=>decide (((ci (s.fr 5)))/4=2)) (.reg [S0, .gen [] (fun vs=>Sx.one (ii 2) vs),S0, .gen [] (fun vs=>Sx.one (ii 2) vs),S0, .sem [.rd 2], .gen [] (fun vs=>Sx.one (uu (ci (Qd vs 0)*ci (Qd vs 1))) vs),S0,S0, .eq (K7), .specr [0] VD, .gen [] (fun vs=>Sx.one (uu (ci (Qd vs 0))) vs), .gen [] (fun vs=>Sx.one (uu (ci (Qd vs 0)+ci (Qd vs 1))) vs),S0, .sem [.wr 2]] (.reg [S0, .gen [] (fun vs=>Sx.one (ii (ci (Qd vs 0) - ci (Qd vs 1))) vs),S0] (.done))) (.reg [S0, .gen [] (fun vs=>Sx.one (ii 3) vs),S0, .gen [] (fun vs=>Sx.one (ii 3) vs),S0, .sem [.rd 2], .gen [] (fun vs=>Sx.one (uu (ci (Qd vs 0)*ci (Qd vs 1))) vs),S0,S0, .eq (K7), .specr [0] VD, .gen [] (fun vs=>Sx.one (uu (ci (Qd vs 0))) vs), .gen [] (fun vs=>Sx.one (uu (ci (Qd vs 0)+ci (Qd vs 1))) vs),S0, .sem [.wr 2]] (.reg [S0, .gen [] (fun vs=>Sx.one (ii (ci (Qd vs 0) - ci (Qd vs 1))) vs),S0] (.done)))))) (.reg [.sem (QV 4 2), .sem (Zq 4 1),S0] (.done)))))))))))
    (Q2 za zh) (Q8 Tryz.prog Tryz.f81 [.rd 1, .rd 1, .rd 1, .rd 1] [0] (X:=Int×Bool) zv zu zp))=
    (∀b1:Nat,Jh a (fun x2=>(Qg Tryz.prog (vS (Builtin.len_ #[101] 3 #[sv x2])) (ii ((vlen (sv x2):Nat):Int)))/\((decide (((vlen (sv x2):Nat):Int)>(16:Int)))=true->Qj 4 b1 (Qj 4 b1 (xe a (Value.tuple #[.agg #[uu 0,uu 0,uu 0,uu 0], .bool false]) (ss 3 x2))))/\((decide (((vlen (sv x2):Nat):Int)>(16:Int)))=false-> ∀b3:Nat,(Qg Tryz.prog (vS (Builtin.len_ #[101] 3 #[sv x2])) (ii ((vlen (sv x2):Nat):Int)))/\gE (ii (IntKind.i64.wrap (((vlen (sv x2):Nat):Int) - 1))) (ii (((vlen (sv x2):Nat):Int) - 1)) ((∃J:Nat×QK×Nat×Nat,(J.1<=(dg J.2.1).length/\Qr J.2.1/\KW (dg a) (dg J.2.1)/\ss 3 J.2.1=ss 3 a/\(dg J.2.1).length<=16)/\sv x2=sv J.2.1/\pp b3 0=pp J.2.2.1 0/\ii (((vlen (sv x2):Nat):Int) - 1)=ii ((J.1:Int) - 1)/\pp b1 0=pp J.2.2.2 0/\(ss 3 x2)=(ss 3 J.2.1)/\bk b3 #[uu 0,uu 0,uu 0,uu 0] 35=bk J.2.2.1 #[uu (lb (dg J.2.1) J.1 0),uu (lb (dg J.2.1) J.1 1),uu (lb (dg J.2.1) J.1 2),uu (lb (dg J.2.1) J.1 3)] 35/\bk b1 #[uu 0,uu 0,uu 0,uu 0] 35=bk J.2.2.2 #[uu 0,uu 0,uu 0,uu 0] 35/\True)/\ ∀x4:Nat×QK×Nat×Nat,∀jx4:Nat->Value,(x4.1<=(dg x4.2.1).length/\Qr x4.2.1/\KW (dg a) (dg x4.2.1)/\ss 3 x4.2.1=ss 3 a/\(dg x4.2.1).length<=16)->((decide (((x4.1:Int) - 1)≥(0:Int)))=true->((decide (((x4.1:Int) - 1)/4=0))=true->gE (ii (IntKind.i64.wrap (Int.tdiv ((x4.1:Int) - 1) 4))) (ii 0) (gE (ii (IntKind.i64.wrap (Int.tdiv ((x4.1:Int) - 1) 4))) (ii 0) (Qj 1 x4.2.2.1 (gE (uu (IntKind.u64.wrap ((lb (dg x4.2.1) x4.1 0)*65536))) (uu ((lb (dg x4.2.1) x4.1 0)*65536)) ((Qg Tryz.prog (vS (Instr.indexAt 101 (sv x4.2.1) (ii ((x4.1:Int) - 1)))) (.pointer (some ⟨(QJ (sv x4.2.1)),(Int.toNat ((x4.1:Int) - 1)),none⟩)))/\Za Tryz.prog (vS (Instr.loadAt 3 (.pointer (some ⟨(QJ (sv x4.2.1)),(Int.toNat ((x4.1:Int) - 1)),none⟩)))) [(ss 3 x4.2.1)] Int (fun J=>ii J) (fun J=>(Qm (ss 3 x4.2.1))[(Int.toNat ((x4.1:Int) - 1))]? =some (ii J)) (fun x5=>gE (uu (IntKind.u64.wrap x5)) (uu x5) (gE (uu (IntKind.u64.wrap (((lb (dg x4.2.1) x4.1 0)*65536)+x5))) (uu (((lb (dg x4.2.1) x4.1 0)*65536)+x5)) (Qj 1 x4.2.2.1 (gE (ii (IntKind.i64.wrap (((x4.1:Int) - 1) - 1))) (ii (((x4.1:Int) - 1) - 1)) (∃I:Nat×QK×Nat×Nat,(I.1<=(dg I.2.1).length/\Qr I.2.1/\KW (dg a) (dg I.2.1)/\ss 3 I.2.1=ss 3 a/\(dg I.2.1).length<=16)/\I.1<x4.1/\sv x4.2.1=sv I.2.1/\pp x4.2.2.1 0=pp I.2.2.1 0/\ii (((x4.1:Int) - 1) - 1)=ii ((I.1:Int) - 1)/\pp x4.2.2.2 0=pp I.2.2.2 0/\(ss 3 x4.2.1)=(ss 3 I.2.1)/\bk x4.2.2.1 #[uu (((lb (dg x4.2.1) x4.1 0)*65536)+x5),uu (lb (dg x4.2.1) x4.1 1),uu (lb (dg x4.2.1) x4.1 2),uu (lb (dg x4.2.1) x4.1 3)] 35=bk I.2.2.1 #[uu (lb (dg I.2.1) I.1 0),uu (lb (dg I.2.1) I.1 1),uu (lb (dg I.2.1) I.1 2),uu (lb (dg I.2.1) I.1 3)] 35/\bk x4.2.2.2 #[uu 0,uu 0,uu 0,uu 0] 35=bk I.2.2.2 #[uu 0,uu 0,uu 0,uu 0] 35/\True))))))))))/\((decide (((x4.1:Int) - 1)/4=0))=false->((decide (((x4.1:Int) - 1)/4=1))=true->gE (ii (IntKind.i64.wrap (Int.tdiv ((x4.1:Int) - 1) 4))) (ii 1) (gE (ii (IntKind.i64.wrap (Int.tdiv ((x4.1:Int) - 1) 4))) (ii 1) (Qj 1 x4.2.2.1 (gE (uu (IntKind.u64.wrap ((lb (dg x4.2.1) x4.1 1)*65536))) (uu ((lb (dg x4.2.1) x4.1 1)*65536)) ((Qg Tryz.prog (vS (Instr.indexAt 101 (sv x4.2.1) (ii ((x4.1:Int) - 1)))) (.pointer (some ⟨(QJ (sv x4.2.1)),(Int.toNat ((x4.1:Int) - 1)),none⟩)))/\Za Tryz.prog (vS (Instr.loadAt 3 (.pointer (some ⟨(QJ (sv x4.2.1)),(Int.toNat ((x4.1:Int) - 1)),none⟩)))) [(ss 3 x4.2.1)] Int (fun J=>ii J) (fun J=>(Qm (ss 3 x4.2.1))[(Int.toNat ((x4.1:Int) - 1))]? =some (ii J)) (fun x6=>gE (uu (IntKind.u64.wrap x6)) (uu x6) (gE (uu (IntKind.u64.wrap (((lb (dg x4.2.1) x4.1 1)*65536)+x6))) (uu (((lb (dg x4.2.1) x4.1 1)*65536)+x6)) (Qj 1 x4.2.2.1 (gE (ii (IntKind.i64.wrap (((x4.1:Int) - 1) - 1))) (ii (((x4.1:Int) - 1) - 1)) (∃I:Nat×QK×Nat×Nat,(I.1<=(dg I.2.1).length/\Qr I.2.1/\KW (dg a) (dg I.2.1)/\ss 3 I.2.1=ss 3 a/\(dg I.2.1).length<=16)/\I.1<x4.1/\sv x4.2.1=sv I.2.1/\pp x4.2.2.1 0=pp I.2.2.1 0/\ii (((x4.1:Int) - 1) - 1)=ii ((I.1:Int) - 1)/\pp x4.2.2.2 0=pp I.2.2.2 0/\(ss 3 x4.2.1)=(ss 3 I.2.1)/\bk x4.2.2.1 #[uu (lb (dg x4.2.1) x4.1 0),uu (((lb (dg x4.2.1) x4.1 1)*65536)+x6),uu (lb (dg x4.2.1) x4.1 2),uu (lb (dg x4.2.1) x4.1 3)] 35=bk I.2.2.1 #[uu (lb (dg I.2.1) I.1 0),uu (lb (dg I.2.1) I.1 1),uu (lb (dg I.2.1) I.1 2),uu (lb (dg I.2.1) I.1 3)] 35/\bk x4.2.2.2 #[uu 0,uu 0,uu 0,uu 0] 35=bk I.2.2.2 #[uu 0,uu 0,uu 0,uu 0] 35/\True))))))))))/\((decide (((x4.1:Int) - 1)/4=1))=false->((decide (((x4.1:Int) - 1)/4=2))=true->gE (ii (IntKind.i64.wrap (Int.tdiv ((x4.1:Int) - 1) 4))) (ii 2) (gE (ii (IntKind.i64.wrap (Int.tdiv ((x4.1:Int) - 1) 4))) (ii 2) (Qj 1 x4.2.2.1 (gE (uu (IntKind.u64.wrap ((lb (dg x4.2.1) x4.1 2)*65536))) (uu ((lb (dg x4.2.1) x4.1 2)*65536)) ((Qg Tryz.prog (vS (Instr.indexAt 101 (sv x4.2.1) (ii ((x4.1:Int) - 1)))) (.pointer (some ⟨(QJ (sv x4.2.1)),(Int.toNat ((x4.1:Int) - 1)),none⟩)))/\Za Tryz.prog (vS (Instr.loadAt 3 (.pointer (some ⟨(QJ (sv x4.2.1)),(Int.toNat ((x4.1:Int) - 1)),none⟩)))) [(ss 3 x4.2.1)] Int (fun J=>ii J) (fun J=>(Qm (ss 3 x4.2.1))[(Int.toNat ((x4.1:Int) - 1))]? =some (ii J)) (fun x7=>gE (uu (IntKind.u64.wrap x7)) (uu x7) (gE (uu (IntKind.u64.wrap (((lb (dg x4.2.1) x4.1 2)*65536)+x7))) (uu (((lb (dg x4.2.1) x4.1 2)*65536)+x7)) (Qj 1 x4.2.2.1 (gE (ii (IntKind.i64.wrap (((x4.1:Int) - 1) - 1))) (ii (((x4.1:Int) - 1) - 1)) (∃I:Nat×QK×Nat×Nat,(I.1<=(dg I.2.1).length/\Qr I.2.1/\KW (dg a) (dg I.2.1)/\ss 3 I.2.1=ss 3 a/\(dg I.2.1).length<=16)/\I.1<x4.1/\sv x4.2.1=sv I.2.1/\pp x4.2.2.1 0=pp I.2.2.1 0/\ii (((x4.1:Int) - 1) - 1)=ii ((I.1:Int) - 1)/\pp x4.2.2.2 0=pp I.2.2.2 0/\(ss 3 x4.2.1)=(ss 3 I.2.1)/\bk x4.2.2.1 #[uu (lb (dg x4.2.1) x4.1 0),uu (lb (dg x4.2.1) x4.1 1),uu (((lb (dg x4.2.1) x4.1 2)*65536)+x7),uu (lb (dg x4.2.1) x4.1 3)] 35=bk I.2.2.1 #[uu (lb (dg I.2.1) I.1 0),uu (lb (dg I.2.1) I.1 1),uu (lb (dg I.2.1) I.1 2),uu (lb (dg I.2.1) I.1 3)] 35/\bk x4.2.2.2 #[uu 0,uu 0,uu 0,uu 0] 35=bk I.2.2.2 #[uu 0,uu 0,uu 0,uu 0] 35/\True))))))))))/\((decide (((x4.1:Int) - 1)/4=2))=false->gE (ii (IntKind.i64.wrap (Int.tdiv ((x4.1:Int) - 1) 4))) (ii 3) (gE (ii (IntKind.i64.wrap (Int.tdiv ((x4.1:Int) - 1) 4))) (ii 3) (Qj 1 x4.2.2.1 (gE (uu (IntKind.u64.wrap ((lb (dg x4.2.1) x4.1 3)*65536))) (uu ((lb (dg x4.2.1) x4.1 3)*65536)) ((Qg Tryz.prog (vS (Instr.indexAt 101 (sv x4.2.1) (ii ((x4.1:Int) - 1)))) (.pointer (some ⟨(QJ (sv x4.2.1)),(Int.toNat ((x4.1:Int) - 1)),none⟩)))/\Za Tryz.prog (vS (Instr.loadAt 3 (.pointer (some ⟨(QJ (sv x4.2.1)),(Int.toNat ((x4.1:Int) - 1)),none⟩)))) [(ss 3 x4.2.1)] Int (fun J=>ii J) (fun J=>(Qm (ss 3 x4.2.1))[(Int.toNat ((x4.1:Int) - 1))]? =some (ii J)) (fun x8=>gE (uu (IntKind.u64.wrap x8)) (uu x8) (gE (uu (IntKind.u64.wrap (((lb (dg x4.2.1) x4.1 3)*65536)+x8))) (uu (((lb (dg x4.2.1) x4.1 3)*65536)+x8)) (Qj 1 x4.2.2.1 (gE (ii (IntKind.i64.wrap (((x4.1:Int) - 1) - 1))) (ii (((x4.1:Int) - 1) - 1)) (∃I:Nat×QK×Nat×Nat,(I.1<=(dg I.2.1).length/\Qr I.2.1/\KW (dg a) (dg I.2.1)/\ss 3 I.2.1=ss 3 a/\(dg I.2.1).length<=16)/\I.1<x4.1/\sv x4.2.1=sv I.2.1/\pp x4.2.2.1 0=pp I.2.2.1 0/\ii (((x4.1:Int) - 1) - 1)=ii ((I.1:Int) - 1)/\pp x4.2.2.2 0=pp I.2.2.2 0/\(ss 3 x4.2.1)=(ss 3 I.2.1)/\bk x4.2.2.1 #[uu (lb (dg x4.2.1) x4.1 0),uu (lb (dg x4.2.1) x4.1 1),uu (lb (dg x4.2.1) x4.1 2),uu (((lb (dg x4.2.1) x4.1 3)*65536)+x8)] 35=bk I.2.2.1 #[uu (lb (dg I.2.1) I.1 0),uu (lb (dg I.2.1) I.1 1),uu (lb (dg I.2.1) I.1 2),uu (lb (dg I.2.1) I.1 3)] 35/\bk x4.2.2.2 #[uu 0,uu 0,uu 0,uu 0] 35=bk I.2.2.2 #[uu 0,uu 0,uu 0,uu 0] 35/\True)))))))))))))/\((decide (((x4.1:Int) - 1)≥(0:Int)))=false->Qj 4 x4.2.2.1 (Qj 4 x4.2.2.2 (Qj 4 x4.2.2.2 (xe a (Value.tuple #[.agg #[uu (lb (dg x4.2.1) x4.1 0),uu (lb (dg x4.2.1) x4.1 1),uu (lb (dg x4.2.1) x4.1 2),uu (lb (dg x4.2.1) x4.1 3)], .bool true]) (ss 3 x4.2.1))))))))):=by kernel_rfl
set_option maxHeartbeats 2000000 in
theorem Qem (a : QK) (r_a : Qr a) (la : (dg a).length <= 65000) : xF a (fun za zh zv zu zp => QC Tryz.prog 81 za zh (Int × Bool) zv zu zp) := by
  refine Qx (c:=Qk Tryz.f81) (n:=34) (fn:=Tryz.f81) QF Tryz.func81 (by kernel_rfl) (by kernel_rfl) (by kernel_rfl) 2000 _ [.rd 1, .rd 1, .rd 1, .rd 1] [0] rfl rfl (Eq.mpr (gB a) ?_)
  have d_a:=Zu a 3
  have e_a:=QW a
  intro b1
  refine J1 a (fun x2 rh1_ h1=> ?_)
  obtain ⟨hs,TR⟩:=h1
  have ok:Qr x2:=by assumption
  have lz:=TR.len
  have ez:=QW x2
  refine ⟨JP QP 3 x2,⟨fun h2=> ?_,fun h2=> ?_⟩⟩
  · exact Qa 4 _ (Qa 4 _ ⟨(0,false),⟨QI,by rw [d_a,←TR.eq];exact (Qcd ok.dig TR.canon (by simp only [X3] at *;omega)).symm⟩,by rw [Q3],hs,trivial⟩)
  intro b3
  refine ⟨JP QP 3 x2,Ql (congrArg (Value.int .i64) (Qz _ (by omega) (by omega))) ⟨?_,fun x4 jx4 h3=> ?_⟩⟩
  · have h16:(dg x2).length<=16:=by
      simp only [X3] at *
      omega
    exact ⟨((dg x2).length,x2,b3,b1),⟨Nat.le_refl _,ok,TR,hs,h16⟩,rfl,rfl,congrArg (Value.int .i64) (by dsimp only;omega),rfl,rfl,by simp only [QgF],rfl,trivial⟩
  obtain ⟨hl,ok,TR,hs,h16⟩:=h3
  have lz:=TR.len;have ez:=QW x4.2.1
  refine ⟨fun h4=> ?_,fun h4=> ?_⟩
  · refine ⟨fun h5=> ?_,fun h5=> ?_⟩
    · have hx:0<x4.1:=by
        simp only [X3] at *
        omega
      have hq:((x4.1:Int) - 1)/4=0:=by
        simp only [X3] at *
        omega
      have LS:=WY ok.dig hx hl (c:=0) (by omega)
      have LW:=LS.2.1;have LX:=LS.2.2.1
      have dz:=ok.dig.dgt (Int.toNat ((x4.1:Int) - 1))
      have et' :Int.toNat ((x4.1:Int) - 1)=x4.1 - 1:=by omega
      refine Ql (congrArg (Value.int .i64) (Yz (by omega) (by omega) hq)) (Ql (congrArg (Value.int .i64) (Yz (by omega) (by omega) hq)) (Qa 1 _ (Ql (congrArg (Value.int .u64) (QO LW)) ⟨qe QP x4.2.1 .i64 ((x4.1:Int) - 1) (by omega) (by rw [←ZE];omega),Qy (VB (e:=3) x4.2.1 3 YM (Int.toNat ((x4.1:Int) - 1)) ok (by omega)) (JM (e:=3) x4.2.1 (Int.toNat ((x4.1:Int) - 1)) ok (by omega)) fun x5 h6=> ?_⟩)))
      replace h6:=yX (e:=3) x4.2.1 (Int.toNat ((x4.1:Int) - 1)) ok (by omega) h6
      refine Ql (congrArg (Value.int .u64) (QO ⟨by omega,by omega⟩)) (Ql (congrArg (Value.int .u64) (QO (by rw [h6,et'];exact LX))) (Qa 1 _ (Ql (congrArg (Value.int .i64) (Qz _ (by omega) (by omega))) ?_)))
      have et:Int.toNat ((x4.1:Int) - 1)=x4.1 - 1:=by omega
      have e0:=LS.1
      have e1:=LS.2.2.2 1 (by decide)
      have e2:=LS.2.2.2 2 (by decide)
      have e3:=LS.2.2.2 3 (by decide)
      exact ⟨(x4.1 - 1,x4.2),⟨by dsimp only;omega,ok,TR,hs,h16⟩,by dsimp only;omega,rfl,rfl,congrArg (Value.int .i64) (by dsimp only;omega),rfl,rfl,by dsimp only;rw [e0,e1,e2,e3,h6,et],rfl,trivial⟩
    refine ⟨fun h7=> ?_,fun h7=> ?_⟩
    · have hx:0<x4.1:=by
        simp only [X3] at *
        omega
      have hq:((x4.1:Int) - 1)/4=1:=by
        simp only [X3] at *
        omega
      have LS:=WY ok.dig hx hl (c:=1) (by omega)
      have LW:=LS.2.1;have LX:=LS.2.2.1
      have dz:=ok.dig.dgt (Int.toNat ((x4.1:Int) - 1))
      have et' :Int.toNat ((x4.1:Int) - 1)=x4.1 - 1:=by omega
      refine Ql (congrArg (Value.int .i64) (Yz (by omega) (by omega) hq)) (Ql (congrArg (Value.int .i64) (Yz (by omega) (by omega) hq)) (Qa 1 _ (Ql (congrArg (Value.int .u64) (QO LW)) ⟨qe QP x4.2.1 .i64 ((x4.1:Int) - 1) (by omega) (by rw [←ZE];omega),Qy (VB (e:=3) x4.2.1 3 YM (Int.toNat ((x4.1:Int) - 1)) ok (by omega)) (JM (e:=3) x4.2.1 (Int.toNat ((x4.1:Int) - 1)) ok (by omega)) fun x6 h8=> ?_⟩)))
      replace h8:=yX (e:=3) x4.2.1 (Int.toNat ((x4.1:Int) - 1)) ok (by omega) h8
      refine Ql (congrArg (Value.int .u64) (QO ⟨by omega,by omega⟩)) (Ql (congrArg (Value.int .u64) (QO (by rw [h8,et'];exact LX))) (Qa 1 _ (Ql (congrArg (Value.int .i64) (Qz _ (by omega) (by omega))) ?_)))
      have et:Int.toNat ((x4.1:Int) - 1)=x4.1 - 1:=by omega
      have e1:=LS.1
      have e0:=LS.2.2.2 0 (by decide)
      have e2:=LS.2.2.2 2 (by decide)
      have e3:=LS.2.2.2 3 (by decide)
      exact ⟨(x4.1 - 1,x4.2),⟨by dsimp only;omega,ok,TR,hs,h16⟩,by dsimp only;omega,rfl,rfl,congrArg (Value.int .i64) (by dsimp only;omega),rfl,rfl,by dsimp only;rw [e0,e1,e2,e3,h8,et],rfl,trivial⟩
    refine ⟨fun h9=> ?_,fun h9=> ?_⟩
    · have hx:0<x4.1:=by
        simp only [X3] at *
        omega
      have hq:((x4.1:Int) - 1)/4=2:=by
        simp only [X3] at *
        omega
      have LS:=WY ok.dig hx hl (c:=2) (by omega)
      have LW:=LS.2.1;have LX:=LS.2.2.1
      have dz:=ok.dig.dgt (Int.toNat ((x4.1:Int) - 1))
      have et' :Int.toNat ((x4.1:Int) - 1)=x4.1 - 1:=by omega
      refine Ql (congrArg (Value.int .i64) (Yz (by omega) (by omega) hq)) (Ql (congrArg (Value.int .i64) (Yz (by omega) (by omega) hq)) (Qa 1 _ (Ql (congrArg (Value.int .u64) (QO LW)) ⟨qe QP x4.2.1 .i64 ((x4.1:Int) - 1) (by omega) (by rw [←ZE];omega),Qy (VB (e:=3) x4.2.1 3 YM (Int.toNat ((x4.1:Int) - 1)) ok (by omega)) (JM (e:=3) x4.2.1 (Int.toNat ((x4.1:Int) - 1)) ok (by omega)) fun x7 h10=> ?_⟩)))
      replace h10:=yX (e:=3) x4.2.1 (Int.toNat ((x4.1:Int) - 1)) ok (by omega) h10
      refine Ql (congrArg (Value.int .u64) (QO ⟨by omega,by omega⟩)) (Ql (congrArg (Value.int .u64) (QO (by rw [h10,et'];exact LX))) (Qa 1 _ (Ql (congrArg (Value.int .i64) (Qz _ (by omega) (by omega))) ?_)))
      have et:Int.toNat ((x4.1:Int) - 1)=x4.1 - 1:=by omega
      have e2:=LS.1
      have e0:=LS.2.2.2 0 (by decide)
      have e1:=LS.2.2.2 1 (by decide)
      have e3:=LS.2.2.2 3 (by decide)
      exact ⟨(x4.1 - 1,x4.2),⟨by dsimp only;omega,ok,TR,hs,h16⟩,by dsimp only;omega,rfl,rfl,congrArg (Value.int .i64) (by dsimp only;omega),rfl,rfl,by dsimp only;rw [e0,e1,e2,e3,h10,et],rfl,trivial⟩
    have hx:0<x4.1:=by
      simp only [X3] at *
      omega
    have hq:((x4.1:Int) - 1)/4=3:=by
      simp only [X3] at *
      omega
    have LS:=WY ok.dig hx hl (c:=3) (by omega)
    have LW:=LS.2.1;have LX:=LS.2.2.1
    have dz:=ok.dig.dgt (Int.toNat ((x4.1:Int) - 1))
    have et' :Int.toNat ((x4.1:Int) - 1)=x4.1 - 1:=by omega
    refine Ql (congrArg (Value.int .i64) (Yz (by omega) (by omega) hq)) (Ql (congrArg (Value.int .i64) (Yz (by omega) (by omega) hq)) (Qa 1 _ (Ql (congrArg (Value.int .u64) (QO LW)) ⟨qe QP x4.2.1 .i64 ((x4.1:Int) - 1) (by omega) (by rw [←ZE];omega),Qy (VB (e:=3) x4.2.1 3 YM (Int.toNat ((x4.1:Int) - 1)) ok (by omega)) (JM (e:=3) x4.2.1 (Int.toNat ((x4.1:Int) - 1)) ok (by omega)) fun x8 h11=> ?_⟩)))
    replace h11:=yX (e:=3) x4.2.1 (Int.toNat ((x4.1:Int) - 1)) ok (by omega) h11
    refine Ql (congrArg (Value.int .u64) (QO ⟨by omega,by omega⟩)) (Ql (congrArg (Value.int .u64) (QO (by rw [h11,et'];exact LX))) (Qa 1 _ (Ql (congrArg (Value.int .i64) (Qz _ (by omega) (by omega))) ?_)))
    have et:Int.toNat ((x4.1:Int) - 1)=x4.1 - 1:=by omega
    have e3:=LS.1
    have e0:=LS.2.2.2 0 (by decide)
    have e1:=LS.2.2.2 1 (by decide)
    have e2:=LS.2.2.2 2 (by decide)
    exact ⟨(x4.1 - 1,x4.2),⟨by dsimp only;omega,ok,TR,hs,h16⟩,by dsimp only;omega,rfl,rfl,congrArg (Value.int .i64) (by dsimp only;omega),rfl,rfl,by dsimp only;rw [e0,e1,e2,e3,h11,et],rfl,trivial⟩
  refine Qa 4 _ (Qa 4 _ (Qa 4 _ ?_))
  unfold xe
  have hn:x4.1=0:=by
    simp only [X3] at *
    omega
  have hle:=h16
  have e:=dE ok.dig hle
  exact ⟨XV (nv (dg a)),⟨kP (ZJ r_a.dig),by rw [d_a]⟩,by rw [←TR.eq,e,hn,QhZ ok.dig hle],hs,trivial⟩
abbrev Yk (a:QK) (KK:(Int×Bool)->Prop):Prop:=xF a (fun za zh zv zu zp=>Ze Tryz.prog 81 za zh (Int×Bool) zv zu zp KK)
theorem Vl (a:QK) {KK:(Int×Bool)->Prop} (kont: ∀J:Int×Bool,R4 J.1->(J=XV (nv (dg a)))->KK J) (r_a:Qr a:=by first | assumption | exact ZW _ _ (by decide)) (la:(dg a).length<=65000:=by omega):Yk a KK:=QH (Qem a r_a la) (⟨_,kP (by rw [Zu a];exact ZJ (Qr.dig (r_a))),rfl⟩) fun J hz=>by
  simp only [Zu] at hz
  obtain ⟨rhz_1,hz⟩:=hz
  exact kont J rhz_1 hz
def yU:List Value->List Qf->ZB:=fun vs hs=>⟨Int×Int×Int,fun J=> .tuple #[vI J.1,vI J.2.1,ii J.2.2],fun _=>hs,fun J=>R4 J.1/\R4 J.2.1/\J=U9 (Qe (Qd vs 1)) (Qe (Qd vs 2))⟩
abbrev BJ (a b:Int) (zv:Value) :Prop:= ∃J:Int×Int×Int,(R4 J.1/\R4 J.2.1/\J=U9 (Qe (vI a)) (Qe (vI b)))/\zv= .tuple #[vI J.1,vI J.2.1,ii J.2.2]/\True
abbrev Ur (a b:Int) (zF:SF (Int×Int×Int)):Prop:=zF #[vI a,vI b] [] (fun J=> .tuple #[vI J.1,vI J.2.1,ii J.2.2]) (fun J=> []) (fun J=>(R4 J.1/\R4 J.2.1/\J=U9 (Qe (vI a)) (Qe (vI b))))
theorem FR (a b:Int):Ur a b (fun za zh zv zu zp=>QB Tryz.prog 27 none 2000 none (Qk Tryz.f72) (.reg [.sem [.nw 0], .sem [.nw 1], .sem [.nw 2], .sem [.nw 3],S0] (.reg [.callr [] Yn, .sem [.nw 4], .sem (Zq 4 4)] (.reg [.sem (QV 4 0), .sem (QV 4 4), .callr [] Xg,S0,S0,S0, .sem (Zq 4 2),S0] (.reg [.sem (QV 4 1), .sem (QV 4 4), .callr [] Xg,S0,S0,S0, .sem (Zq 4 3),S0] (.reg [.sem (QV 4 2), .sem (QV 4 3),S0,S0,S0, .sem (Zq 4 2), .sem (Zq 4 3),S0] (.done))))))
    (Q2 za zh) (Q8 Tryz.prog Tryz.f72 [.rd 2, .rd 2, .rd 2, .rd 2, .rd 3, .rd 3, .rd 3, .rd 3] [] (X:=Int×Int×Int) zv zu zp))=
    (∀b1:Nat,∀b2:Nat,∀b3:Nat,∀b4:Nat,KC (1:Int) (fun _=> ∀b5:Nat,Qj 4 b5 (Qj 4 b1 (Qj 4 b5 (Z7 a (1:Int) (fun x6=>Qj 4 b3 (Qj 4 b2 (Qj 4 b5 (Z7 b (1:Int) (fun x7=>Qj 4 b4 (Qj 4 b3 (Qj 4 b4 (Qj 4 b3 (Qj 4 b4 (Qj 4 b3 (Qj 4 b4 (BJ a b (Value.tuple #[vI x6.1,vI x7.1,ii (if x7.2>x6.2 then x7.2 else x6.2)])))))))))))))))))):=by kernel_rfl
theorem Qam (a b:Int) (r_a:R4 a) (r_b:R4 b):Ur a b (fun za zh zv zu zp=>QC Tryz.prog 72 za zh (Int×Int×Int) zv zu zp):=by
  refine Qx (c:=Qk Tryz.f72) (n:=27) (fn:=Tryz.f72) QF Tryz.func72 (by kernel_rfl) (by kernel_rfl) (by kernel_rfl) 2000 _ [.rd 2, .rd 2, .rd 2, .rd 2, .rd 3, .rd 3, .rd 3, .rd 3] [] rfl rfl (Eq.mpr (FR a b) ?_)
  intro b1
  intro b2
  intro b3
  intro b4
  refine Yq (1:Int) (fun b5=>Qa 4 _ (Qa 4 _ (Qa 4 _ (Xe a (1:Int) (fun x6 rh1_1 h1=> ?_) (r_b:=by unfold R4;decide)))))
  have h1:=h1
  refine Qa 4 _ (Qa 4 _ (Qa 4 _ (Xe b (1:Int) (fun x7 rh2_1 h2=> ?_) (r_b:=by unfold R4;decide))))
  have h2:=h2
  exact Qa 4 _ (Qa 4 _ (Qa 4 _ (Qa 4 _ (Qa 4 _ (Qa 4 _ (Qa 4 _ ⟨U9 a b,⟨(WK r_a r_b).1,(WK r_a r_b).2,by rw [Qc r_a,Qc r_b]⟩,by subst h1 h2;rfl,trivial⟩))))))
abbrev UN (a b:Int) (KK:(Int×Int×Int)->Prop):Prop:=Ur a b (fun za zh zv zu zp=>Zh Tryz.prog 72 za zh (Int×Int×Int) zv zp KK)
theorem ye (a b:Int) {KK:(Int×Int×Int)->Prop} (kont: ∀J:Int×Int×Int,R4 J.1->R4 J.2.1->(J=U9 a b)->KK J) (r_a:R4 a:=by assumption) (r_b:R4 b:=by assumption):UN a b KK:=QN (Qam a b r_a r_b) (⟨_,(WK (by first | exact Qu _ | exact r_a) (by first | exact Qu _ | exact r_b)).1,(WK (by first | exact Qu _ | exact r_a) (by first | exact Qu _ | exact r_b)).2,rfl⟩) fun J hz=>by
  obtain ⟨rhz_1,hz⟩:=hz
  obtain ⟨rhz_21,hz⟩:=hz
  try simp only [Qc (n:=a) r_a,Qc (n:=b) r_b] at hz
  exact kont J rhz_1 rhz_21 hz
def Xz:List Value->List Qf->ZB:=fun vs hs=>⟨QK,fun J=>sv J,fun J=> [(ss 3 J)],fun J=>Qr J/\nv (dg J)=(Qe (Qd vs 1))+1/\Zj (dg J)/\(dg J).length<=65⟩
abbrev pK (a:Int) (zv:Value) (zs0:Qf):Prop:= ∃J:QK,(Qr J/\nv (dg J)=(Qe (vI a))+1/\Zj (dg J)/\(dg J).length<=65)/\zv=sv J/\zs0=(ss 3 J)/\True
abbrev qC (a:Int) (zF:SF QK):Prop:=zF #[vI a] [] (fun J=>sv J) (fun J=> [(ss 3 J)]) (fun J=>(Qr J/\nv (dg J)=(Qe (vI a))+1/\Zj (dg J)/\(dg J).length<=65))
theorem vq (a:Int):qC a (fun za zh zv zu zp=>QB Tryz.prog 7 none 2000 none (Qk Tryz.f77) (.reg [.sem [.nw 0],S0] (.reg [.sem (QV 4 0), .callw [] [1] ZK, .sem [.nw 2], .callw [1,2] [1,2,30] Yb,S0] (.done)))
    (Q2 za zh) (Q8 Tryz.prog Tryz.f77 [] [30] (X:=QK) zv zu zp))=
    (∀b1:Nat,Qj 4 b1 (ZA a (fun x2=> ∀b3:Nat,Kq x2 (QK.mk b3 [ii 1] []) (fun x4=>pK a (sv x4) (ss 3 x4))))):=by kernel_rfl
theorem QbB (a:Int) (r_a:R4 a):qC a (fun za zh zv zu zp=>QC Tryz.prog 77 za zh QK zv zu zp):=by
  refine Qx (c:=Qk Tryz.f77) (n:=7) (fn:=Tryz.f77) QF Tryz.func77 (by kernel_rfl) (by kernel_rfl) (by kernel_rfl) 2000 _ [] [30] rfl rfl (Eq.mpr (vq a) ?_)
  intro b1
  refine Qa 4 _ (ZN a (fun x2 rh1_ h1=> ?_))
  have h1:=h1
  have okh1:Qr x2:=by assumption
  have eh1:=QW x2
  have ch1:=Zi okh1.dig h1.2.1
  have lh1:=h1.2.2
  intro b3
  refine Yj x2 (QK.mk b3 [.int .i64 1] []) (fun x4 rh2_ h2=> ?_) (r_b:=ZW b3 [1] (by decide)) (lb:=Nat.le_of_ble_eq_true rfl)
  have h2:=h2
  have e:nv (dg x4)=a+1:=by rw [h2.1,h1.1];rfl
  exact ⟨_,⟨by assumption,by rw [Qc r_a];exact e,h2.2,Qga (Qr.dig ‹_›) h2.2 e (R48 r_a)⟩,rfl,rfl,trivial⟩
abbrev Xj (a:Int) (KK:QK->Prop):Prop:=qC a (fun za zh zv zu zp=>Ze Tryz.prog 77 za zh QK zv zu zp KK)
theorem Xx (a:Int) {KK:QK->Prop} (kont: ∀J:QK,Qr J->(nv (dg J)=a+1/\Zj (dg J)/\(dg J).length<=65)->KK J) (r_a:R4 a:=by assumption):Xj a KK:=QH (QbB a r_a) (Qfp (by first | exact Qu _ | exact r_a)) fun J hz=>by
  obtain ⟨rhz_,hz⟩:=hz
  try simp only [Qc (n:=a) r_a] at hz
  exact kont J rhz_ hz
def bY:List Value->List Qf->ZB:=fun vs hs=>⟨Int×Int,fun J=> .tuple #[vI J.1,ii J.2],fun _=>hs,fun J=>R4 J.1/\J=Yx (Qe (Qd vs 1)) (Qe (Qd vs 2)) (Qe (Qd vs 3))⟩
abbrev Z6 (A S n:Int) (zv:Value) :Prop:= ∃J:Int×Int,(R4 J.1/\J=Yx (Qe (vI A)) (Qe (vI S)) (Qe (vI n)))/\zv= .tuple #[vI J.1,ii J.2]/\True
abbrev Gz (A S n:Int) (zF:SF (Int×Int)):Prop:=zF #[vI A,vI S,vI n] [] (fun J=> .tuple #[vI J.1,ii J.2]) (fun J=> []) (fun J=>(R4 J.1/\J=Yx (Qe (vI A)) (Qe (vI S)) (Qe (vI n))))
set_option maxHeartbeats 1000000 in
theorem vU (A S n:Int):Gz A S n (fun za zh zv zu zp=>QB Tryz.prog 66 none 2000 none (Qk Tryz.f43) (.reg [.sem [.nw 0], .sem [.nw 1], .sem [.nw 2], .sem [.nw 3],S0] (.reg [.sem (QV 4 2),S0, .eq (Bu)] (.cond (.reg [.sem (QV 4 2), .sem (Zq 4 3),S0] (.done)) (.reg [.sem (QV 4 0), .sem (QV 4 1), .callr [] yU,S0,S0,S0,S0, .sem [.nw 4], .sem [.nw 5], .sem (Zq 4 4), .sem (Zq 4 5),S0] (.reg [S0,S0] (.cond (.reg [S0,S0, .sem (Zq 4 3),S0] (.done)) (.reg [.sem (QV 4 2), .sem (QV 4 5), .sem (QV 4 4), .callr [] VX,S0,S0,S0, .sem [.nw 6], .sem (Zq 4 6),S0] (.reg [S0,S0,S0] (.cond (.reg [S0,S0, .sem (Zq 4 3),S0] (.done)) (.reg [.sem (QV 4 6),S0, .eq (Bu),S0] (.cond (.reg [.sem (QV 4 6), .sem (Zq 4 3),S0] (.done)) (.reg [.sem (QV 4 0), .sem (QV 4 2), .callr [] Xg,S0,S0,S0,S0] (.reg [.sem (QV 4 1), .sem (QV 4 6), .callr [] Xg,S0,S0,S0, .sem [.nw 7], .sem (Zq 4 7),S0] (.caseP (fun s=>(ci (s.fr 10)) !=(0:Int)) (.reg [S0, .gen [] (Sx.one (.bool true)),S0, .no, .no,S0] (.condT (.reg [S0, .sem (Zq 4 3),S0] (.done)))) (.reg [S0, .gen [] (Sx.one (.bool false)),S0,S0,S0,S0] (.cond (.reg [S0, .sem (Zq 4 3),S0] (.done)) (.reg [.sem (QV 4 6), .sem (Zq 4 3),S0] (.done))))))))))))))))))
    (Q2 za zh) (Q8 Tryz.prog Tryz.f43 [.rd 3, .rd 3, .rd 3, .rd 3] [] (X:=Int×Int) zv zu zp))=
    (∀b1:Nat,∀b2:Nat,∀b3:Nat,∀b4:Nat,Qj 4 b3 ((Qg Tryz.prog (Q0 .eql 35 (vI n) (vI 0)) (.bool (Qe (vI n)==Qe (vI 0))))/\((Qe (vI n)==Qe (vI 0))=true->Qj 4 b3 (Qj 4 b4 (Qj 4 b4 (Z6 A S n (Value.tuple #[vI n,ii 3])))))/\((Qe (vI n)==Qe (vI 0))=false->Qj 4 b1 (Qj 4 b2 (UN A S (fun x5=> ∀b6:Nat,∀b7:Nat,Qj 4 b6 (Qj 4 b7 (((x5.2.2 !=(0:Int))=true->Qj 4 b4 (Qj 4 b4 (Z6 A S n (Value.tuple #[.agg #[uu 0,uu 0,uu 0,uu 0],ii x5.2.2]))))/\((x5.2.2 !=(0:Int))=false->Qj 4 b3 (Qj 4 b7 (Qj 4 b6 (Yy n x5.2.1 x5.1 (fun x8=> ∀b9:Nat,Qj 4 b9 (((x8.2 !=(0:Int))=true->Qj 4 b4 (Qj 4 b4 (Z6 A S n (Value.tuple #[.agg #[uu 0,uu 0,uu 0,uu 0],ii x8.2]))))/\((x8.2 !=(0:Int))=false->Qj 4 b9 ((Qg Tryz.prog (Q0 .eql 35 (vI x8.1) (vI 0)) (.bool (Qe (vI x8.1)==Qe (vI 0))))/\((Qe (vI x8.1)==Qe (vI 0))=true->Qj 4 b9 (Qj 4 b4 (Qj 4 b4 (Z6 A S n (Value.tuple #[vI x8.1,ii 3])))))/\((Qe (vI x8.1)==Qe (vI 0))=false->Qj 4 b1 (Qj 4 b3 (Z7 A n (fun x10=>Qj 4 b2 (Qj 4 b9 (Z7 S x8.1 (fun x11=> ∀b12:Nat,Qj 4 b12 (((x10.2 !=(0:Int))=true->gE (.bool (x10.2 !=(0:Int))) (.bool true) (true= !false/\true= !false/\(true=true)/\Qj 4 b4 (Qj 4 b4 (Z6 A S n (Value.tuple #[.agg #[uu 0,uu 0,uu 0,uu 0],ii 2])))))/\((x10.2 !=(0:Int))=false->gE (.bool (x10.2 !=(0:Int))) (.bool false) (false=false/\false=false/\((x11.2 !=(0:Int))=true->Qj 4 b4 (Qj 4 b4 (Z6 A S n (Value.tuple #[.agg #[uu 0,uu 0,uu 0,uu 0],ii 2]))))/\((x11.2 !=(0:Int))=false->Qj 4 b9 (Qj 4 b4 (Qj 4 b4 (Z6 A S n (Value.tuple #[vI x8.1,ii 0]))))))))))))))))))))))))))))))):=by kernel_rfl
set_option maxHeartbeats 1000000 in
theorem Qda (A S n:Int) (r_A:R4 A) (r_S:R4 S) (r_n:R4 n):Gz A S n (fun za zh zv zu zp=>QC Tryz.prog 43 za zh (Int×Int) zv zu zp):=by
  refine Qx (c:=Qk Tryz.f43) (n:=66) (fn:=Tryz.f43) QF Tryz.func43 (by kernel_rfl) (by kernel_rfl) (by kernel_rfl) 2000 _ [.rd 3, .rd 3, .rd 3, .rd 3] [] rfl rfl (Eq.mpr (vU A S n) ?_)
  have g0:=r_A.1;have g1:=r_S.1;have g2:=r_n.1
  have qn:=JW r_n.1 r_S.1 r_A.1
  intro b1
  intro b2
  intro b3
  intro b4
  refine Qa 4 _ ⟨JD n 0,⟨fun h1=> ?_,fun h1=> ?_⟩⟩
  · refine Qa 4 _ (Qa 4 _ (Qa 4 _ ?_))
    unfold Z6
    try simp (disch:=assumption) only [Zp] at *
    have ha:n=0:=by omega
    have hs:Yx A S n=(0,3):=by
      unfold Yx
      (repeat' split)<;>first | rfl | (exfalso;omega)
    exact ⟨(0,3),⟨QI,by first | exact hs.symm | (rw [Qc r_A,Qc r_S,Qc r_n];exact hs.symm)⟩,by rw [ha],trivial⟩
  refine Qa 4 _ (Qa 4 _ (ye A S (fun x5 rh2_1 rh2_21 h2=> ?_)))
  have cm:=wO h2
  intro b6
  intro b7
  refine Qa 4 _ (Qa 4 _ ⟨fun h3=> ?_,fun h3=> ?_⟩)
  · refine Qa 4 _ (Qa 4 _ ?_)
    unfold Z6
    try simp (disch:=assumption) only [Zp] at *
    have he:x5.2.2=2:=by omega
    have hs:Yx A S n=(0,2):=by
      unfold Yx
      (repeat' split)<;>first | rfl | (exfalso;omega)
    exact ⟨(0,2),⟨QI,by first | exact hs.symm | (rw [Qc r_A,Qc r_S,Qc r_n];exact hs.symm)⟩,by rw [he,Q3],trivial⟩
  refine Qa 4 _ (Qa 4 _ (Qa 4 _ (V5 n x5.2.1 x5.1 (fun x8 rh4_1 h4=> ?_))))
  have cq:=jH h4 (by try simp (disch:=assumption) only [Zp] at *;omega)
  rw [show x5.2.1=S+1 from by try simp (disch:=assumption) only [Zp] at *;omega,show x5.1=A+1 from by try simp (disch:=assumption) only [Zp] at *;omega] at cq
  intro b9
  refine Qa 4 _ ⟨fun h5=> ?_,fun h5=> ?_⟩
  · refine Qa 4 _ (Qa 4 _ ?_)
    unfold Z6
    try simp (disch:=assumption) only [Zp] at *
    have he:x8.2=2:=by omega
    have hs:Yx A S n=(0,2):=by
      unfold Yx
      (repeat' split)<;>first | rfl | (exfalso;omega)
    exact ⟨(0,2),⟨QI,by first | exact hs.symm | (rw [Qc r_A,Qc r_S,Qc r_n];exact hs.symm)⟩,by rw [he,Q3],trivial⟩
  refine Qa 4 _ ⟨JD x8.1 0,⟨fun h6=> ?_,fun h6=> ?_⟩⟩
  · refine Qa 4 _ (Qa 4 _ (Qa 4 _ ?_))
    unfold Z6
    try simp (disch:=assumption) only [Zp] at *
    have ha:x8.1=0:=by omega
    have hs:Yx A S n=(0,3):=by
      unfold Yx
      (repeat' split)<;>first | rfl | (exfalso;omega)
    exact ⟨(0,3),⟨QI,by first | exact hs.symm | (rw [Qc r_A,Qc r_S,Qc r_n];exact hs.symm)⟩,by rw [ha],trivial⟩
  refine Qa 4 _ (Qa 4 _ (Xe A n (fun x10 rh7_1 h7=> ?_)))
  have ha:=h7
  have cha:=J3 h7
  refine Qa 4 _ (Qa 4 _ (Xe S x8.1 (fun x11 rh8_1 h8=> ?_)))
  have hb:=h8
  have chb:=J3 h8
  intro b12
  refine Qa 4 _ ⟨fun h9=> ?_,fun h9=> ?_⟩
  · refine Ql (congrArg Value.bool h9) ⟨rfl,rfl,⟨rfl,Qa 4 _ (Qa 4 _ ?_)⟩⟩
    unfold Z6
    try simp (disch:=assumption) only [Zp] at *
    have hs:Yx A S n=(0,2):=by
      unfold Yx
      (repeat' split)<;>first | rfl | (exfalso;omega)
    exact ⟨(0,2),⟨QI,by first | exact hs.symm | (rw [Qc r_A,Qc r_S,Qc r_n];exact hs.symm)⟩,by rw [Q3],trivial⟩
  refine Ql (congrArg Value.bool h9) ⟨rfl,rfl,⟨fun h10=> ?_,fun h10=> ?_⟩⟩
  · refine Qa 4 _ (Qa 4 _ ?_)
    unfold Z6
    try simp (disch:=assumption) only [Zp] at *
    have hs:Yx A S n=(0,2):=by
      unfold Yx
      (repeat' split)<;>first | rfl | (exfalso;omega)
    exact ⟨(0,2),⟨QI,by first | exact hs.symm | (rw [Qc r_A,Qc r_S,Qc r_n];exact hs.symm)⟩,by rw [Q3],trivial⟩
  refine Qa 4 _ (Qa 4 _ (Qa 4 _ ?_))
  unfold Z6
  try simp (disch:=assumption) only [Zp] at *
  have ha:x8.1=n*(S+1)/(A+1):=by omega
  have hs:Yx A S n=(n*(S+1)/(A+1),0):=by
    unfold Yx
    (repeat' split)<;>first | rfl | (exfalso;omega)
  exact ⟨(n*(S+1)/(A+1),0),⟨ha▸‹_›,by first | exact hs.symm | (rw [Qc r_A,Qc r_S,Qc r_n];exact hs.symm)⟩,by rw [ha],trivial⟩
def wE:List Value->List Qf->ZB:=fun vs hs=>⟨Int×Int,fun J=> .tuple #[vI J.1,ii J.2],fun _=>hs,fun J=>R4 J.1/\J=XJ (Qe (Qd vs 1)) (Qe (Qd vs 2)) (Qe (Qd vs 3))⟩
abbrev Xb (A S n:Int) (zv:Value) :Prop:= ∃J:Int×Int,(R4 J.1/\J=XJ (Qe (vI A)) (Qe (vI S)) (Qe (vI n)))/\zv= .tuple #[vI J.1,ii J.2]/\True
abbrev zJ (A S n:Int) (zF:SF (Int×Int)):Prop:=zF #[vI A,vI S,vI n] [] (fun J=> .tuple #[vI J.1,ii J.2]) (fun J=> []) (fun J=>(R4 J.1/\J=XJ (Qe (vI A)) (Qe (vI S)) (Qe (vI n))))
set_option maxHeartbeats 1000000 in
theorem Bp (A S n:Int):zJ A S n (fun za zh zv zu zp=>QB Tryz.prog 53 none 2000 none (Qk Tryz.f41) (.reg [.sem [.nw 0], .sem [.nw 1], .sem [.nw 2], .sem [.nw 3],S0] (.reg [.sem (QV 4 2),S0, .eq (Bu),S0] (.cond (.reg [.sem (QV 4 2), .sem (Zq 4 3),S0] (.done)) (.reg [.sem (QV 4 2), .sem (QV 4 1), .callr [] Uv,S0,S0] (.cond (.reg [S0, .sem (Zq 4 3),S0] (.done)) (.reg [.sem (QV 4 0), .sem (QV 4 1), .callr [] yU,S0,S0,S0,S0, .sem [.nw 4], .sem [.nw 5], .sem (Zq 4 4), .sem (Zq 4 5),S0] (.reg [S0,S0] (.cond (.reg [S0,S0, .sem (Zq 4 3),S0] (.done)) (.reg [.sem (QV 4 2), .sem (QV 4 4), .sem (QV 4 5), .callr [] VX,S0,S0,S0, .sem [.nw 6], .sem (Zq 4 6),S0] (.reg [S0,S0,S0] (.cond (.reg [S0,S0, .sem (Zq 4 3),S0] (.done)) (.reg [.sem (QV 4 6), .sem (QV 4 0), .callr [] Uv,S0,S0] (.cond (.reg [S0, .sem (Zq 4 3),S0] (.done)) (.reg [.sem (QV 4 6), .sem (Zq 4 3),S0] (.done)))))))))))))))
    (Q2 za zh) (Q8 Tryz.prog Tryz.f41 [.rd 3, .rd 3, .rd 3, .rd 3] [] (X:=Int×Int) zv zu zp))=
    (∀b1:Nat,∀b2:Nat,∀b3:Nat,∀b4:Nat,Qj 4 b3 ((Qg Tryz.prog (Q0 .eql 35 (vI n) (vI 0)) (.bool (Qe (vI n)==Qe (vI 0))))/\((Qe (vI n)==Qe (vI 0))=true->Qj 4 b3 (Qj 4 b4 (Qj 4 b4 (Xb A S n (Value.tuple #[vI n,ii 3])))))/\((Qe (vI n)==Qe (vI 0))=false->Qj 4 b3 (Qj 4 b2 (Vq n S (fun _=>((decide ((X7 (Qe (vI n)) (Qe (vI S)))>(0:Int)))=true->Qj 4 b4 (Qj 4 b4 (Xb A S n (Value.tuple #[.agg #[uu 0,uu 0,uu 0,uu 0],ii 8]))))/\((decide ((X7 (Qe (vI n)) (Qe (vI S)))>(0:Int)))=false->Qj 4 b1 (Qj 4 b2 (UN A S (fun x5=> ∀b6:Nat,∀b7:Nat,Qj 4 b6 (Qj 4 b7 (((x5.2.2 !=(0:Int))=true->Qj 4 b4 (Qj 4 b4 (Xb A S n (Value.tuple #[.agg #[uu 0,uu 0,uu 0,uu 0],ii x5.2.2]))))/\((x5.2.2 !=(0:Int))=false->Qj 4 b3 (Qj 4 b6 (Qj 4 b7 (Yy n x5.1 x5.2.1 (fun x8=> ∀b9:Nat,Qj 4 b9 (((x8.2 !=(0:Int))=true->Qj 4 b4 (Qj 4 b4 (Xb A S n (Value.tuple #[.agg #[uu 0,uu 0,uu 0,uu 0],ii x8.2]))))/\((x8.2 !=(0:Int))=false->Qj 4 b9 (Qj 4 b1 (Vq x8.1 A (fun _=>((decide ((X7 (Qe (vI x8.1)) (Qe (vI A)))>(0:Int)))=true->Qj 4 b4 (Qj 4 b4 (Xb A S n (Value.tuple #[.agg #[uu 0,uu 0,uu 0,uu 0],ii 8]))))/\((decide ((X7 (Qe (vI x8.1)) (Qe (vI A)))>(0:Int)))=false->Qj 4 b9 (Qj 4 b4 (Qj 4 b4 (Xb A S n (Value.tuple #[vI x8.1,ii 0]))))))))))))))))))))))))))):=by kernel_rfl
set_option maxHeartbeats 1000000 in
theorem QbV (A S n:Int) (r_A:R4 A) (r_S:R4 S) (r_n:R4 n):zJ A S n (fun za zh zv zu zp=>QC Tryz.prog 41 za zh (Int×Int) zv zu zp):=by
  refine Qx (c:=Qk Tryz.f41) (n:=53) (fn:=Tryz.f41) QF Tryz.func41 (by kernel_rfl) (by kernel_rfl) (by kernel_rfl) 2000 _ [.rd 3, .rd 3, .rd 3, .rd 3] [] rfl rfl (Eq.mpr (Bp A S n) ?_)
  have g0:=r_A.1;have g1:=r_S.1;have g2:=r_n.1
  have qn:=JW r_n.1 r_A.1 r_S.1
  intro b1
  intro b2
  intro b3
  intro b4
  refine Qa 4 _ ⟨JD n 0,⟨fun h1=> ?_,fun h1=> ?_⟩⟩
  · refine Qa 4 _ (Qa 4 _ (Qa 4 _ ?_))
    unfold Xb
    try simp (disch:=assumption) only [Zp] at *
    have ha:n=0:=by omega
    have hs:XJ A S n=(0,3):=by
      unfold XJ
      (repeat' split)<;>first | rfl | (exfalso;omega)
    exact ⟨(0,3),⟨QI,by first | exact hs.symm | (rw [Qc r_A,Qc r_S,Qc r_n];exact hs.symm)⟩,by rw [ha],trivial⟩
  refine Qa 4 _ (Qa 4 _ (UH n S ⟨fun h2=> ?_,fun h2=> ?_⟩))
  · refine Qa 4 _ (Qa 4 _ ?_)
    unfold Xb
    try simp (disch:=assumption) only [Zp] at *
    have hs:XJ A S n=(0,8):=by
      unfold XJ
      (repeat' split)<;>first | rfl | (exfalso;omega)
    exact ⟨(0,8),⟨QI,by first | exact hs.symm | (rw [Qc r_A,Qc r_S,Qc r_n];exact hs.symm)⟩,by rw [Q3],trivial⟩
  refine Qa 4 _ (Qa 4 _ (ye A S (fun x5 rh3_1 rh3_21 h3=> ?_)))
  have cm:=wO h3
  intro b6
  intro b7
  refine Qa 4 _ (Qa 4 _ ⟨fun h4=> ?_,fun h4=> ?_⟩)
  · refine Qa 4 _ (Qa 4 _ ?_)
    unfold Xb
    try simp (disch:=assumption) only [Zp] at *
    have he:x5.2.2=2:=by omega
    have hs:XJ A S n=(0,2):=by
      unfold XJ
      (repeat' split)<;>first | rfl | (exfalso;omega)
    exact ⟨(0,2),⟨QI,by first | exact hs.symm | (rw [Qc r_A,Qc r_S,Qc r_n];exact hs.symm)⟩,by rw [he,Q3],trivial⟩
  refine Qa 4 _ (Qa 4 _ (Qa 4 _ (V5 n x5.1 x5.2.1 (fun x8 rh5_1 h5=> ?_))))
  have cq:=jH h5 (by try simp (disch:=assumption) only [Zp] at *;omega)
  rw [show x5.1=A+1 from by try simp (disch:=assumption) only [Zp] at *;omega,show x5.2.1=S+1 from by try simp (disch:=assumption) only [Zp] at *;omega] at cq
  intro b9
  refine Qa 4 _ ⟨fun h6=> ?_,fun h6=> ?_⟩
  · refine Qa 4 _ (Qa 4 _ ?_)
    unfold Xb
    try simp (disch:=assumption) only [Zp] at *
    have he:x8.2=2:=by omega
    have hs:XJ A S n=(0,2):=by
      unfold XJ
      (repeat' split)<;>first | rfl | (exfalso;omega)
    exact ⟨(0,2),⟨QI,by first | exact hs.symm | (rw [Qc r_A,Qc r_S,Qc r_n];exact hs.symm)⟩,by rw [he,Q3],trivial⟩
  refine Qa 4 _ (Qa 4 _ (UH x8.1 A ⟨fun h7=> ?_,fun h7=> ?_⟩))
  · refine Qa 4 _ (Qa 4 _ ?_)
    unfold Xb
    try simp (disch:=assumption) only [Zp] at *
    have hs:XJ A S n=(0,8):=by
      unfold XJ
      (repeat' split)<;>first | rfl | (exfalso;omega)
    exact ⟨(0,8),⟨QI,by first | exact hs.symm | (rw [Qc r_A,Qc r_S,Qc r_n];exact hs.symm)⟩,by rw [Q3],trivial⟩
  refine Qa 4 _ (Qa 4 _ (Qa 4 _ ?_))
  unfold Xb
  try simp (disch:=assumption) only [Zp] at *
  have ha:x8.1=n*(A+1)/(S+1):=by omega
  have hs:XJ A S n=(n*(A+1)/(S+1),0):=by
    unfold XJ
    (repeat' split)<;>first | rfl | (exfalso;omega)
  exact ⟨(n*(A+1)/(S+1),0),⟨ha▸‹_›,by first | exact hs.symm | (rw [Qc r_A,Qc r_S,Qc r_n];exact hs.symm)⟩,by rw [ha],trivial⟩
abbrev zB (A S n:Int) (KK:(Int×Int)->Prop):Prop:=zJ A S n (fun za zh zv zu zp=>Zh Tryz.prog 41 za zh (Int×Int) zv zp KK)
theorem wA (A S n:Int) {KK:(Int×Int)->Prop} (kont: ∀J:Int×Int,R4 J.1->(J=XJ A S n)->KK J) (r_A:R4 A:=by assumption) (r_S:R4 S:=by assumption) (r_n:R4 n:=by assumption):zB A S n KK:=QN (QbV A S n r_A r_S r_n) (⟨_,xf (by first | exact Qu _ | exact r_A) (by first | exact Qu _ | exact r_S) (by first | exact Qu _ | exact r_n),rfl⟩) fun J hz=>by
  obtain ⟨rhz_1,hz⟩:=hz
  try simp only [Qc (n:=A) r_A,Qc (n:=S) r_S,Qc (n:=n) r_n] at hz
  exact kont J rhz_1 hz
def bq:List Value->List Qf->ZB:=fun vs hs=>⟨Int×Int,fun J=> .tuple #[vI J.1,ii J.2],fun _=>hs,fun J=>R4 J.1/\J=Yx (Qe (Qd vs 1)) (Qe (Qd vs 2)) (Qe (Qd vs 3))⟩
abbrev ZR (A S n:Int) (zv:Value) :Prop:= ∃J:Int×Int,(R4 J.1/\J=Yx (Qe (vI A)) (Qe (vI S)) (Qe (vI n)))/\zv= .tuple #[vI J.1,ii J.2]/\True
abbrev Gg (A S n:Int) (zF:SF (Int×Int)):Prop:=zF #[vI A,vI S,vI n] [] (fun J=> .tuple #[vI J.1,ii J.2]) (fun J=> []) (fun J=>(R4 J.1/\J=Yx (Qe (vI A)) (Qe (vI S)) (Qe (vI n))))
set_option maxHeartbeats 1000000 in
theorem gX (A S n:Int):Gg A S n (fun za zh zv zu zp=>QB Tryz.prog 69 none 2000 none (Qk Tryz.f51) (.reg [.sem [.nw 0], .sem [.nw 1], .sem [.nw 2], .sem [.nw 3],S0] (.reg [S0, .sem [.nw 4], .sem (Zq 4 4)] (.reg [.sem (QV 4 2), .sem (QV 4 4), .eq (Bu)] (.cond (.reg [.sem (QV 4 4), .sem (Zq 4 3),S0] (.done)) (.caseP (fun s=>decide (115792089237316195423570985008687907853269984665640564039457584007913129639936<=Qe (.agg (Qm (s.H 0)))+1)) (.reg [.sem (QV 4 0), .callw [] [5] Xz, .eq (Xa), .gen [] (Sx.one (.bool true)),S0, .no, .no, .no, .no,S0] (.condT (.reg [.sem (QV 4 4), .sem (Zq 4 3),S0] (.done)))) (.reg [.sem (QV 4 0), .callw [] [5] Xz, .eq (Xa), .gen [] (Sx.one (.bool false)),S0, .sem (QV 4 1), .callw [] [6] Xz, .eq (Xa),S0,S0] (.cond (.reg [.sem (QV 4 4), .sem (Zq 4 3),S0] (.done)) (.reg [.sem (QV 4 2), .callw [] [7] ZK, .sem (QV 4 1), .callw [] [8] Xz, .callw [7,8] [7,8,9] xM, .sem (QV 4 0), .callw [] [10] Xz, .callw [9,10] [9,10,11,12] xI,S0,S0,S0,S0,S0] (.reg [S0, .callw [11] [11] Vu,S0,S0,S0, .sem [.nw 13], .sem (Zq 4 13),S0] (.reg [S0,S0] (.cond (.reg [.sem (QV 4 4), .sem (Zq 4 3),S0] (.done)) (.reg [.sem (QV 4 13), .sem (QV 4 4), .eq (Bu)] (.cond (.reg [.sem (QV 4 4), .sem (Zq 4 3),S0] (.done)) (.caseP (fun s=>decide (115792089237316195423570985008687907853269984665640564039457584007913129639936<=Qe (.agg (Qm (s.H 0)))+Qe (.agg (Qm (s.H 2))))) (.reg [.sem (QV 4 0), .callw [] [14] ZK, .sem (QV 4 2), .callw [] [15] ZK, .callw [14,15] [14,15,16] Yb, .eq (Xa), .gen [] (Sx.one (.bool true)),S0, .no, .no, .no, .no, .no, .no,S0] (.condT (.reg [.sem (QV 4 4), .sem (Zq 4 3),S0] (.done)))) (.reg [.sem (QV 4 0), .callw [] [14] ZK, .sem (QV 4 2), .callw [] [15] ZK, .callw [14,15] [14,15,16] Yb, .eq (Xa), .gen [] (Sx.one (.bool false)),S0, .sem (QV 4 1), .callw [] [17] ZK,S0, .callw [17,11] [17,11,18] Yb, .eq (Xa),S0,S0] (.cond (.reg [.sem (QV 4 4), .sem (Zq 4 3),S0] (.done)) (.reg [.sem (QV 4 13), .sem (Zq 4 3),S0] (.done))))))))))))))))))
    (Q2 za zh) (Q8 Tryz.prog Tryz.f51 [.rd 3, .rd 3, .rd 3, .rd 3] [] (X:=Int×Int) zv zu zp))=
    (∀b1:Nat,∀b2:Nat,∀b3:Nat,∀b4:Nat,∀b5:Nat,Qj 4 b5 (Qj 4 b3 (Qj 4 b5 ((Qg Tryz.prog (Q0 .eql 35 (vI n) (vI 0)) (.bool (Qe (vI n)==Qe (vI 0))))/\((Qe (vI n)==Qe (vI 0))=true->Qj 4 b5 (Qj 4 b4 (Qj 4 b4 (ZR A S n (Value.tuple #[.agg #[uu 0,uu 0,uu 0,uu 0],ii 3])))))/\((Qe (vI n)==Qe (vI 0))=false->((decide (115792089237316195423570985008687907853269984665640564039457584007913129639936<=Qe (vI A)+1))=true->Qj 4 b1 (Xj A (fun x6=>(Qg Tryz.prog (vS (Builtin.len_ #[101] 3 #[sv x6])) (ii ((vlen (sv x6):Nat):Int)))/\gE (.bool (decide (((vlen (sv x6):Nat):Int)>(16:Int)))) (.bool true) (true= !false/\true= !false/\true= !false/\true= !false/\(true=true)/\Qj 4 b5 (Qj 4 b4 (Qj 4 b4 (ZR A S n (Value.tuple #[.agg #[uu 0,uu 0,uu 0,uu 0],ii 2]))))))))/\((decide (115792089237316195423570985008687907853269984665640564039457584007913129639936<=Qe (vI A)+1))=false->Qj 4 b1 (Xj A (fun x7=>(Qg Tryz.prog (vS (Builtin.len_ #[101] 3 #[sv x7])) (ii ((vlen (sv x7):Nat):Int)))/\gE (.bool (decide (((vlen (sv x7):Nat):Int)>(16:Int)))) (.bool false) (false=false/\Qj 4 b2 (false=false/\Xj S (fun x8=>false=false/\(Qg Tryz.prog (vS (Builtin.len_ #[101] 3 #[sv x8])) (ii ((vlen (sv x8):Nat):Int)))/\false=false/\((decide (((vlen (sv x8):Nat):Int)>(16:Int)))=true->Qj 4 b5 (Qj 4 b4 (Qj 4 b4 (ZR A S n (Value.tuple #[.agg #[uu 0,uu 0,uu 0,uu 0],ii 2])))))/\((decide (((vlen (sv x8):Nat):Int)>(16:Int)))=false->Qj 4 b3 (ZA n (fun x9=>Qj 4 b2 (Xj S (fun x10=>UU x9 x10 (fun x11=>Qj 4 b1 (Xj A (fun x12=>UZ x11 x12 (fun x13=>Yk x13.1 (fun x14=> ∀b15:Nat,Qj 4 b15 (((!x14.2)=true->Qj 4 b5 (Qj 4 b4 (Qj 4 b4 (ZR A S n (Value.tuple #[.agg #[uu 0,uu 0,uu 0,uu 0],ii 2])))))/\((!x14.2)=false->Qj 4 b15 (Qj 4 b5 ((Qg Tryz.prog (Q0 .eql 35 (vI x14.1) (vI 0)) (.bool (Qe (vI x14.1)==Qe (vI 0))))/\((Qe (vI x14.1)==Qe (vI 0))=true->Qj 4 b5 (Qj 4 b4 (Qj 4 b4 (ZR A S n (Value.tuple #[.agg #[uu 0,uu 0,uu 0,uu 0],ii 3])))))/\((Qe (vI x14.1)==Qe (vI 0))=false->((decide (115792089237316195423570985008687907853269984665640564039457584007913129639936<=Qe (vI A)+Qe (vI n)))=true->Qj 4 b1 (ZA A (fun x16=>Qj 4 b3 (ZA n (fun x17=>Kq x16 x17 (fun x18=>(Qg Tryz.prog (vS (Builtin.len_ #[101] 3 #[sv x18])) (ii ((vlen (sv x18):Nat):Int)))/\gE (.bool (decide (((vlen (sv x18):Nat):Int)>(16:Int)))) (.bool true) (true= !false/\true= !false/\true= !false/\true= !false/\true= !false/\true= !false/\(true=true)/\Qj 4 b5 (Qj 4 b4 (Qj 4 b4 (ZR A S n (Value.tuple #[.agg #[uu 0,uu 0,uu 0,uu 0],ii 2])))))))))))/\((decide (115792089237316195423570985008687907853269984665640564039457584007913129639936<=Qe (vI A)+Qe (vI n)))=false->Qj 4 b1 (ZA A (fun x19=>Qj 4 b3 (ZA n (fun x20=>Kq x19 x20 (fun x21=>(Qg Tryz.prog (vS (Builtin.len_ #[101] 3 #[sv x21])) (ii ((vlen (sv x21):Nat):Int)))/\gE (.bool (decide (((vlen (sv x21):Nat):Int)>(16:Int)))) (.bool false) (false=false/\Qj 4 b2 (false=false/\ZA S (fun x22=>false=false/\false=false/\Kq x22 x13.1 (fun x23=>false=false/\(Qg Tryz.prog (vS (Builtin.len_ #[101] 3 #[sv x23])) (ii ((vlen (sv x23):Nat):Int)))/\false=false/\((decide (((vlen (sv x23):Nat):Int)>(16:Int)))=true->Qj 4 b5 (Qj 4 b4 (Qj 4 b4 (ZR A S n (Value.tuple #[.agg #[uu 0,uu 0,uu 0,uu 0],ii 2])))))/\((decide (((vlen (sv x23):Nat):Int)>(16:Int)))=false->Qj 4 b15 (Qj 4 b4 (Qj 4 b4 (ZR A S n (Value.tuple #[vI x14.1,ii 0]))))))))))))))))))))))))))))))))))))))))):=by kernel_rfl
set_option maxHeartbeats 1000000 in
theorem Qdt (A S n:Int) (r_A:R4 A) (r_S:R4 S) (r_n:R4 n):Gg A S n (fun za zh zv zu zp=>QC Tryz.prog 51 za zh (Int×Int) zv zu zp):=by
  refine Qx (c:=Qk Tryz.f51) (n:=69) (fn:=Tryz.f51) QF Tryz.func51 (by kernel_rfl) (by kernel_rfl) (by kernel_rfl) 2000 _ [.rd 3, .rd 3, .rd 3, .rd 3] [] rfl rfl (Eq.mpr (gX A S n) ?_)
  have g0:=r_A.1;have g1:=r_S.1;have g2:=r_n.1
  have qn:=JW r_n.1 r_S.1 r_A.1
  intro b1
  intro b2
  intro b3
  intro b4
  intro b5
  refine Qa 4 _ (Qa 4 _ (Qa 4 _ ⟨JD n 0,⟨fun h1=> ?_,fun h1=> ?_⟩⟩))
  · refine Qa 4 _ (Qa 4 _ (Qa 4 _ ?_))
    unfold ZR
    try simp (disch:=assumption) only [Zp] at *
    have hs:Yx A S n=(0,3):=by
      unfold Yx
      (repeat' split)<;>first | rfl | (exfalso;omega)
    exact ⟨(0,3),⟨QI,by first | exact hs.symm | (rw [Qc r_A,Qc r_S,Qc r_n];exact hs.symm)⟩,by rw [Q3],trivial⟩
  refine ⟨fun h2=> ?_,fun h2=> ?_⟩
  · have kk0:=of_decide_eq_true h2
    simp only [Qc r_A,Qc r_S,Qc r_n] at kk0
    refine Qa 4 _ (Xx A (fun x6 rh3_ h3=> ?_))
    have hO:=h3
    have okhO:Qr x6:=by assumption
    have ehO:=QW x6
    have chO:=Zi okhO.dig hO.2.1
    have lhO:=hO.2.2
    have shO:=J6 okhO.dig hO.2.1
    refine ⟨JP QP 3 x6,Ql (congrArg Value.bool (by first | exact decide_eq_true (by omega) | exact decide_eq_false (by omega))) ⟨rfl,rfl,rfl,rfl,⟨rfl,Qa 4 _ (Qa 4 _ (Qa 4 _ ?_))⟩⟩⟩
    unfold ZR
    try simp (disch:=assumption) only [Zp] at *
    have hs:Yx A S n=(0,2):=by
      unfold Yx
      (repeat' split)<;>first | rfl | (exfalso;omega)
    exact ⟨(0,2),⟨QI,by first | exact hs.symm | (rw [Qc r_A,Qc r_S,Qc r_n];exact hs.symm)⟩,by rw [Q3],trivial⟩
  have kk0:=of_decide_eq_false h2
  simp only [Qc r_A,Qc r_S,Qc r_n] at kk0
  refine Qa 4 _ (Xx A (fun x7 rh4_ h4=> ?_))
  have hO:=h4
  have okhO:Qr x7:=by assumption
  have ehO:=QW x7
  have chO:=Zi okhO.dig hO.2.1
  have lhO:=hO.2.2
  have shO:=J6 okhO.dig hO.2.1
  refine ⟨JP QP 3 x7,Ql (congrArg Value.bool (by first | exact decide_eq_true (by omega) | exact decide_eq_false (by omega))) ⟨rfl,Qa 4 _ ⟨rfl,Xx S (fun x8 rh5_ h5=> ?_)⟩⟩⟩
  have hP:=h5
  have okhP:Qr x8:=by assumption
  have ehP:=QW x8
  have chP:=Zi okhP.dig hP.2.1
  have lhP:=hP.2.2
  have shP:=J6 okhP.dig hP.2.1
  refine ⟨rfl,JP QP 3 x8,rfl,⟨fun h6=> ?_,fun h6=> ?_⟩⟩
  · refine Qa 4 _ (Qa 4 _ (Qa 4 _ ?_))
    unfold ZR
    try simp (disch:=assumption) only [Zp] at *
    have hs:Yx A S n=(0,2):=by
      unfold Yx
      (repeat' split)<;>first | rfl | (exfalso;omega)
    exact ⟨(0,2),⟨QI,by first | exact hs.symm | (rw [Qc r_A,Qc r_S,Qc r_n];exact hs.symm)⟩,by rw [Q3],trivial⟩
  have hA1:A+1<115792089237316195423570985008687907853269984665640564039457584007913129639936:=by (try simp (disch:=assumption) only [Zp] at *);omega
  have hS1:S+1<115792089237316195423570985008687907853269984665640564039457584007913129639936:=by (try simp (disch:=assumption) only [Zp] at *);omega
  have R1:R4 (S+1):=⟨by omega,hS1⟩
  refine Qa 4 _ (ZN n (fun x9 rh7_ h7=> ?_))
  have hT:=h7
  have okhT:Qr x9:=by assumption
  have ehT:=QW x9
  have chT:=Zi okhT.dig hT.2.1
  have lhT:=hT.2.2
  refine Qa 4 _ (Xx S (fun x10 rh8_ h8=> ?_))
  have hU:=h8
  have okhU:Qr x10:=by assumption
  have ehU:=QW x10
  have chU:=Zi okhU.dig hU.2.1
  have lhU:=hU.2.2
  have shU:=J6 okhU.dig hU.2.1
  refine xv x9 x10 (fun x11 rh9_ h9=> ?_)
  have hM:=h9
  have lM:(dg x11).length<=64:=F9 (Qr.dig ‹_›) hM.2 (by rw [hM.1,hT.1,hU.1]) (Vk (xS r_n R1))
  refine Qa 4 _ (Xx A (fun x12 rh10_ h10=> ?_))
  have hV:=h10
  have okhV:Qr x12:=by assumption
  have ehV:=QW x12
  have chV:=Zi okhV.dig hV.2.1
  have lhV:=hV.2.2
  have shV:=J6 okhV.dig hV.2.1
  refine xt x11 x12 (fun x13 rh11_1 rh11_2 h11=> ?_) (hb:=by rw [hV.1];omega)
  have hD:=h11
  rw [hM.1,hT.1,hU.1,hV.1] at hD
  have okq:Qr x13.1:=by assumption
  have l40:(dg x13.1).length<=64:=F9 okq.dig hD.2.2.1 hD.1 (Vk (QdL (xS r_n R1) (by omega)))
  refine Vl x13.1 (fun x14 rh12_1 h12=> ?_)
  have hI:=h12
  rw [hD.1] at hI
  intro b15
  refine Qa 4 _ ⟨fun h13=> ?_,fun h13=> ?_⟩
  · refine Qa 4 _ (Qa 4 _ (Qa 4 _ ?_))
    unfold ZR
    have cI:=(JU hI).2 (jz h13)
    try simp (disch:=assumption) only [Zp] at *
    have hs:Yx A S n=(0,2):=by
      unfold Yx
      (repeat' split)<;>first | rfl | (exfalso;omega)
    exact ⟨(0,2),⟨QI,by first | exact hs.symm | (rw [Qc r_A,Qc r_S,Qc r_n];exact hs.symm)⟩,by rw [Q3],trivial⟩
  refine Qa 4 _ (Qa 4 _ ⟨JD x14.1 0,⟨fun h14=> ?_,fun h14=> ?_⟩⟩)
  · refine Qa 4 _ (Qa 4 _ (Qa 4 _ ?_))
    unfold ZR
    have cI:=(JU hI).1 (K4 h13)
    try simp (disch:=assumption) only [Zp] at *
    have hs:Yx A S n=(0,3):=by
      unfold Yx
      (repeat' split)<;>first | rfl | (exfalso;omega)
    exact ⟨(0,3),⟨QI,by first | exact hs.symm | (rw [Qc r_A,Qc r_S,Qc r_n];exact hs.symm)⟩,by rw [Q3],trivial⟩
  refine ⟨fun h15=> ?_,fun h15=> ?_⟩
  · have kk0:=of_decide_eq_true h15
    simp only [Qc r_A,Qc r_S,Qc r_n] at kk0
    refine Qa 4 _ (ZN A (fun x16 rh16_ h16=> ?_))
    have hE:=h16
    have okhE:Qr x16:=by assumption
    have ehE:=QW x16
    have chE:=Zi okhE.dig hE.2.1
    have lhE:=hE.2.2
    refine Qa 4 _ (ZN n (fun x17 rh17_ h17=> ?_))
    have hF:=h17
    have okhF:Qr x17:=by assumption
    have ehF:=QW x17
    have chF:=Zi okhF.dig hF.2.1
    have lhF:=hF.2.2
    refine Yj x16 x17 (fun x18 rh18_ h18=> ?_)
    have hG:=h18
    have okhG:Qr x18:=by assumption
    have ehG:=QW x18
    have shG:=J6 okhG.dig hG.2
    have nG:nv (dg x18)=A+n:=by rw [hG.1,hE.1,hF.1]
    refine ⟨JP QP 3 x18,Ql (congrArg Value.bool (by first | exact decide_eq_true (by omega) | exact decide_eq_false (by omega))) ⟨rfl,rfl,rfl,rfl,rfl,rfl,⟨rfl,Qa 4 _ (Qa 4 _ (Qa 4 _ ?_))⟩⟩⟩
    unfold ZR
    have cI:=(JU hI).1 (K4 h13)
    try simp (disch:=assumption) only [Zp] at *
    have hs:Yx A S n=(0,2):=by
      unfold Yx
      (repeat' split)<;>first | rfl | (exfalso;omega)
    exact ⟨(0,2),⟨QI,by first | exact hs.symm | (rw [Qc r_A,Qc r_S,Qc r_n];exact hs.symm)⟩,by rw [Q3],trivial⟩
  have kk0:=of_decide_eq_false h15
  simp only [Qc r_A,Qc r_S,Qc r_n] at kk0
  refine Qa 4 _ (ZN A (fun x19 rh19_ h19=> ?_))
  have hE:=h19
  have okhE:Qr x19:=by assumption
  have ehE:=QW x19
  have chE:=Zi okhE.dig hE.2.1
  have lhE:=hE.2.2
  refine Qa 4 _ (ZN n (fun x20 rh20_ h20=> ?_))
  have hF:=h20
  have okhF:Qr x20:=by assumption
  have ehF:=QW x20
  have chF:=Zi okhF.dig hF.2.1
  have lhF:=hF.2.2
  refine Yj x19 x20 (fun x21 rh21_ h21=> ?_)
  have hG:=h21
  have okhG:Qr x21:=by assumption
  have ehG:=QW x21
  have shG:=J6 okhG.dig hG.2
  have nG:nv (dg x21)=A+n:=by rw [hG.1,hE.1,hF.1]
  refine ⟨JP QP 3 x21,Ql (congrArg Value.bool (by first | exact decide_eq_true (by omega) | exact decide_eq_false (by omega))) ⟨rfl,Qa 4 _ ⟨rfl,ZN S (fun x22 rh22_ h22=> ?_)⟩⟩⟩
  have hH:=h22
  have okhH:Qr x22:=by assumption
  have ehH:=QW x22
  have chH:=Zi okhH.dig hH.2.1
  have lhH:=hH.2.2
  refine ⟨rfl,rfl,Yj x22 x13.1 (fun x23 rh23_ h23=> ?_)⟩
  have hJ:=h23
  have okhJ:Qr x23:=by assumption
  have ehJ:=QW x23
  have shJ:=J6 okhJ.dig hJ.2
  have nJ:nv (dg x23)=S+n*(S+1)/(A+1):=by rw [hJ.1,hH.1,hD.1]
  refine ⟨rfl,JP QP 3 x23,rfl,⟨fun h24=> ?_,fun h24=> ?_⟩⟩
  · refine Qa 4 _ (Qa 4 _ (Qa 4 _ ?_))
    unfold ZR
    have cI:=(JU hI).1 (K4 h13)
    try simp (disch:=assumption) only [Zp] at *
    have hs:Yx A S n=(0,2):=by
      unfold Yx
      (repeat' split)<;>first | rfl | (exfalso;omega)
    exact ⟨(0,2),⟨QI,by first | exact hs.symm | (rw [Qc r_A,Qc r_S,Qc r_n];exact hs.symm)⟩,by rw [Q3],trivial⟩
  refine Qa 4 _ (Qa 4 _ (Qa 4 _ ?_))
  unfold ZR
  have cI:=(JU hI).1 (K4 h13)
  try simp (disch:=assumption) only [Zp] at *
  have ha:x14.1=n*(S+1)/(A+1):=by omega
  have hs:Yx A S n=(n*(S+1)/(A+1),0):=by
    unfold Yx
    (repeat' split)<;>first | rfl | (exfalso;omega)
  exact ⟨(n*(S+1)/(A+1),0),⟨ha▸‹_›,by first | exact hs.symm | (rw [Qc r_A,Qc r_S,Qc r_n];exact hs.symm)⟩,by rw [ha],trivial⟩
def pE:List Value->List Qf->ZB:=fun vs hs=>⟨Int×Int,fun J=> .tuple #[vI J.1,ii J.2],fun _=>hs,fun J=>R4 J.1/\J=XJ (Qe (Qd vs 1)) (Qe (Qd vs 2)) (Qe (Qd vs 3))⟩
abbrev ZV (A S n:Int) (zv:Value) :Prop:= ∃J:Int×Int,(R4 J.1/\J=XJ (Qe (vI A)) (Qe (vI S)) (Qe (vI n)))/\zv= .tuple #[vI J.1,ii J.2]/\True
abbrev wR (A S n:Int) (zF:SF (Int×Int)):Prop:=zF #[vI A,vI S,vI n] [] (fun J=> .tuple #[vI J.1,ii J.2]) (fun J=> []) (fun J=>(R4 J.1/\J=XJ (Qe (vI A)) (Qe (vI S)) (Qe (vI n))))
set_option maxHeartbeats 1000000 in
theorem vA (A S n:Int):wR A S n (fun za zh zv zu zp=>QB Tryz.prog 62 none 2000 none (Qk Tryz.f55) (.reg [.sem [.nw 0], .sem [.nw 1], .sem [.nw 2], .sem [.nw 3],S0] (.reg [S0, .sem [.nw 4], .sem (Zq 4 4)] (.reg [.sem (QV 4 2), .sem (QV 4 4), .eq (Bu)] (.cond (.reg [.sem (QV 4 4), .sem (Zq 4 3),S0] (.done)) (.reg [.sem (QV 4 2), .callw [] [5] ZK, .sem (QV 4 1), .callw [] [6] ZK, .callr [5,6] Yh,S0] (.cond (.reg [.sem (QV 4 4), .sem (Zq 4 3),S0] (.done)) (.caseP (fun s=>decide (115792089237316195423570985008687907853269984665640564039457584007913129639936<=Qe (.agg (Qm (s.H 0)))+1)) (.reg [.sem (QV 4 0), .callw [] [7] Xz, .eq (Xa), .gen [] (Sx.one (.bool true)),S0, .no, .no, .no, .no,S0] (.condT (.reg [.sem (QV 4 4), .sem (Zq 4 3),S0] (.done)))) (.reg [.sem (QV 4 0), .callw [] [7] Xz, .eq (Xa), .gen [] (Sx.one (.bool false)),S0, .sem (QV 4 1), .callw [] [8] Xz, .eq (Xa),S0,S0] (.cond (.reg [.sem (QV 4 4), .sem (Zq 4 3),S0] (.done)) (.reg [.sem (QV 4 2), .callw [] [9] ZK, .sem (QV 4 0), .callw [] [10] Xz, .callw [9,10] [9,10,11] xM, .sem (QV 4 1), .callw [] [12] Xz, .callw [11,12] [11,12,13,14] xI,S0,S0,S0,S0,S0] (.reg [S0, .callw [13] [13] Vu,S0,S0,S0, .sem [.nw 15], .sem (Zq 4 15),S0] (.reg [S0,S0] (.cond (.reg [.sem (QV 4 4), .sem (Zq 4 3),S0] (.done)) (.reg [S0, .sem (QV 4 0), .callw [] [16] ZK, .callr [13,16] Yh,S0] (.cond (.reg [.sem (QV 4 4), .sem (Zq 4 3),S0] (.done)) (.reg [.sem (QV 4 15), .sem (Zq 4 3),S0] (.done)))))))))))))))))
    (Q2 za zh) (Q8 Tryz.prog Tryz.f55 [.rd 3, .rd 3, .rd 3, .rd 3] [] (X:=Int×Int) zv zu zp))=
    (∀b1:Nat,∀b2:Nat,∀b3:Nat,∀b4:Nat,∀b5:Nat,Qj 4 b5 (Qj 4 b3 (Qj 4 b5 ((Qg Tryz.prog (Q0 .eql 35 (vI n) (vI 0)) (.bool (Qe (vI n)==Qe (vI 0))))/\((Qe (vI n)==Qe (vI 0))=true->Qj 4 b5 (Qj 4 b4 (Qj 4 b4 (ZV A S n (Value.tuple #[.agg #[uu 0,uu 0,uu 0,uu 0],ii 3])))))/\((Qe (vI n)==Qe (vI 0))=false->Qj 4 b3 (ZA n (fun x6=>Qj 4 b2 (ZA S (fun x7=>Kv x6 x7 (fun x8=>((decide (x8>(0:Int)))=true->Qj 4 b5 (Qj 4 b4 (Qj 4 b4 (ZV A S n (Value.tuple #[.agg #[uu 0,uu 0,uu 0,uu 0],ii 8])))))/\((decide (x8>(0:Int)))=false->((decide (115792089237316195423570985008687907853269984665640564039457584007913129639936<=Qe (vI A)+1))=true->Qj 4 b1 (Xj A (fun x9=>(Qg Tryz.prog (vS (Builtin.len_ #[101] 3 #[sv x9])) (ii ((vlen (sv x9):Nat):Int)))/\gE (.bool (decide (((vlen (sv x9):Nat):Int)>(16:Int)))) (.bool true) (true= !false/\true= !false/\true= !false/\true= !false/\(true=true)/\Qj 4 b5 (Qj 4 b4 (Qj 4 b4 (ZV A S n (Value.tuple #[.agg #[uu 0,uu 0,uu 0,uu 0],ii 2]))))))))/\((decide (115792089237316195423570985008687907853269984665640564039457584007913129639936<=Qe (vI A)+1))=false->Qj 4 b1 (Xj A (fun x10=>(Qg Tryz.prog (vS (Builtin.len_ #[101] 3 #[sv x10])) (ii ((vlen (sv x10):Nat):Int)))/\gE (.bool (decide (((vlen (sv x10):Nat):Int)>(16:Int)))) (.bool false) (false=false/\Qj 4 b2 (false=false/\Xj S (fun x11=>false=false/\(Qg Tryz.prog (vS (Builtin.len_ #[101] 3 #[sv x11])) (ii ((vlen (sv x11):Nat):Int)))/\false=false/\((decide (((vlen (sv x11):Nat):Int)>(16:Int)))=true->Qj 4 b5 (Qj 4 b4 (Qj 4 b4 (ZV A S n (Value.tuple #[.agg #[uu 0,uu 0,uu 0,uu 0],ii 2])))))/\((decide (((vlen (sv x11):Nat):Int)>(16:Int)))=false->Qj 4 b3 (ZA n (fun x12=>Qj 4 b1 (Xj A (fun x13=>UU x12 x13 (fun x14=>Qj 4 b2 (Xj S (fun x15=>UZ x14 x15 (fun x16=>Yk x16.1 (fun x17=> ∀b18:Nat,Qj 4 b18 (((!x17.2)=true->Qj 4 b5 (Qj 4 b4 (Qj 4 b4 (ZV A S n (Value.tuple #[.agg #[uu 0,uu 0,uu 0,uu 0],ii 2])))))/\((!x17.2)=false->Qj 4 b1 (ZA A (fun x19=>Kv x16.1 x19 (fun x20=>((decide (x20>(0:Int)))=true->Qj 4 b5 (Qj 4 b4 (Qj 4 b4 (ZV A S n (Value.tuple #[.agg #[uu 0,uu 0,uu 0,uu 0],ii 8])))))/\((decide (x20>(0:Int)))=false->Qj 4 b18 (Qj 4 b4 (Qj 4 b4 (ZV A S n (Value.tuple #[vI x17.1,ii 0]))))))))))))))))))))))))))))))))))))):=by kernel_rfl
set_option maxHeartbeats 1000000 in
theorem QbO (A S n:Int) (r_A:R4 A) (r_S:R4 S) (r_n:R4 n):wR A S n (fun za zh zv zu zp=>QC Tryz.prog 55 za zh (Int×Int) zv zu zp):=by
  refine Qx (c:=Qk Tryz.f55) (n:=62) (fn:=Tryz.f55) QF Tryz.func55 (by kernel_rfl) (by kernel_rfl) (by kernel_rfl) 2000 _ [.rd 3, .rd 3, .rd 3, .rd 3] [] rfl rfl (Eq.mpr (vA A S n) ?_)
  have g0:=r_A.1;have g1:=r_S.1;have g2:=r_n.1
  have qn:=JW r_n.1 r_A.1 r_S.1
  intro b1
  intro b2
  intro b3
  intro b4
  intro b5
  refine Qa 4 _ (Qa 4 _ (Qa 4 _ ⟨JD n 0,⟨fun h1=> ?_,fun h1=> ?_⟩⟩))
  · refine Qa 4 _ (Qa 4 _ (Qa 4 _ ?_))
    unfold ZV
    try simp (disch:=assumption) only [Zp] at *
    have hs:XJ A S n=(0,3):=by
      unfold XJ
      (repeat' split)<;>first | rfl | (exfalso;omega)
    exact ⟨(0,3),⟨QI,by first | exact hs.symm | (rw [Qc r_A,Qc r_S,Qc r_n];exact hs.symm)⟩,by rw [Q3],trivial⟩
  refine Qa 4 _ (ZN n (fun x6 rh2_ h2=> ?_))
  have hE:=h2
  have okhE:Qr x6:=by assumption
  have ehE:=QW x6
  have chE:=Zi okhE.dig hE.2.1
  have lhE:=hE.2.2
  refine Qa 4 _ (ZN S (fun x7 rh3_ h3=> ?_))
  have hF:=h3
  have okhF:Qr x7:=by assumption
  have ehF:=QW x7
  have chF:=Zi okhF.dig hF.2.1
  have lhF:=hF.2.2
  refine Yf x6 x7 (fun x8 h4=> ?_)
  have hX:=h4
  rw [hE.1,hF.1] at hX
  have chX:=Yr hX
  refine ⟨fun h5=> ?_,fun h5=> ?_⟩
  · refine Qa 4 _ (Qa 4 _ (Qa 4 _ ?_))
    unfold ZV
    try simp (disch:=assumption) only [Zp] at *
    have hs:XJ A S n=(0,8):=by
      unfold XJ
      (repeat' split)<;>first | rfl | (exfalso;omega)
    exact ⟨(0,8),⟨QI,by first | exact hs.symm | (rw [Qc r_A,Qc r_S,Qc r_n];exact hs.symm)⟩,by rw [Q3],trivial⟩
  refine ⟨fun h6=> ?_,fun h6=> ?_⟩
  · have kk0:=of_decide_eq_true h6
    simp only [Qc r_A,Qc r_S,Qc r_n] at kk0
    refine Qa 4 _ (Xx A (fun x9 rh7_ h7=> ?_))
    have hO:=h7
    have okhO:Qr x9:=by assumption
    have ehO:=QW x9
    have chO:=Zi okhO.dig hO.2.1
    have lhO:=hO.2.2
    have shO:=J6 okhO.dig hO.2.1
    refine ⟨JP QP 3 x9,Ql (congrArg Value.bool (by first | exact decide_eq_true (by omega) | exact decide_eq_false (by omega))) ⟨rfl,rfl,rfl,rfl,⟨rfl,Qa 4 _ (Qa 4 _ (Qa 4 _ ?_))⟩⟩⟩
    unfold ZV
    try simp (disch:=assumption) only [Zp] at *
    have hs:XJ A S n=(0,2):=by
      unfold XJ
      (repeat' split)<;>first | rfl | (exfalso;omega)
    exact ⟨(0,2),⟨QI,by first | exact hs.symm | (rw [Qc r_A,Qc r_S,Qc r_n];exact hs.symm)⟩,by rw [Q3],trivial⟩
  have kk0:=of_decide_eq_false h6
  simp only [Qc r_A,Qc r_S,Qc r_n] at kk0
  refine Qa 4 _ (Xx A (fun x10 rh8_ h8=> ?_))
  have hO:=h8
  have okhO:Qr x10:=by assumption
  have ehO:=QW x10
  have chO:=Zi okhO.dig hO.2.1
  have lhO:=hO.2.2
  have shO:=J6 okhO.dig hO.2.1
  refine ⟨JP QP 3 x10,Ql (congrArg Value.bool (by first | exact decide_eq_true (by omega) | exact decide_eq_false (by omega))) ⟨rfl,Qa 4 _ ⟨rfl,Xx S (fun x11 rh9_ h9=> ?_)⟩⟩⟩
  have hP:=h9
  have okhP:Qr x11:=by assumption
  have ehP:=QW x11
  have chP:=Zi okhP.dig hP.2.1
  have lhP:=hP.2.2
  have shP:=J6 okhP.dig hP.2.1
  refine ⟨rfl,JP QP 3 x11,rfl,⟨fun h10=> ?_,fun h10=> ?_⟩⟩
  · refine Qa 4 _ (Qa 4 _ (Qa 4 _ ?_))
    unfold ZV
    try simp (disch:=assumption) only [Zp] at *
    have hs:XJ A S n=(0,2):=by
      unfold XJ
      (repeat' split)<;>first | rfl | (exfalso;omega)
    exact ⟨(0,2),⟨QI,by first | exact hs.symm | (rw [Qc r_A,Qc r_S,Qc r_n];exact hs.symm)⟩,by rw [Q3],trivial⟩
  have hA1:A+1<115792089237316195423570985008687907853269984665640564039457584007913129639936:=by (try simp (disch:=assumption) only [Zp] at *);omega
  have hS1:S+1<115792089237316195423570985008687907853269984665640564039457584007913129639936:=by (try simp (disch:=assumption) only [Zp] at *);omega
  have R1:R4 (A+1):=⟨by omega,hA1⟩
  refine Qa 4 _ (ZN n (fun x12 rh11_ h11=> ?_))
  have hT:=h11
  have okhT:Qr x12:=by assumption
  have ehT:=QW x12
  have chT:=Zi okhT.dig hT.2.1
  have lhT:=hT.2.2
  refine Qa 4 _ (Xx A (fun x13 rh12_ h12=> ?_))
  have hU:=h12
  have okhU:Qr x13:=by assumption
  have ehU:=QW x13
  have chU:=Zi okhU.dig hU.2.1
  have lhU:=hU.2.2
  have shU:=J6 okhU.dig hU.2.1
  refine xv x12 x13 (fun x14 rh13_ h13=> ?_)
  have hM:=h13
  have lM:(dg x14).length<=64:=F9 (Qr.dig ‹_›) hM.2 (by rw [hM.1,hT.1,hU.1]) (Vk (xS r_n R1))
  refine Qa 4 _ (Xx S (fun x15 rh14_ h14=> ?_))
  have hV:=h14
  have okhV:Qr x15:=by assumption
  have ehV:=QW x15
  have chV:=Zi okhV.dig hV.2.1
  have lhV:=hV.2.2
  have shV:=J6 okhV.dig hV.2.1
  refine xt x14 x15 (fun x16 rh15_1 rh15_2 h15=> ?_) (hb:=by rw [hV.1];omega)
  have hD:=h15
  rw [hM.1,hT.1,hU.1,hV.1] at hD
  have okq:Qr x16.1:=by assumption
  have l40:(dg x16.1).length<=64:=F9 okq.dig hD.2.2.1 hD.1 (Vk (QdL (xS r_n R1) (by omega)))
  refine Vl x16.1 (fun x17 rh16_1 h16=> ?_)
  have hI:=h16
  rw [hD.1] at hI
  intro b18
  refine Qa 4 _ ⟨fun h17=> ?_,fun h17=> ?_⟩
  · refine Qa 4 _ (Qa 4 _ (Qa 4 _ ?_))
    unfold ZV
    have cI:=(JU hI).2 (jz h17)
    try simp (disch:=assumption) only [Zp] at *
    have hs:XJ A S n=(0,2):=by
      unfold XJ
      (repeat' split)<;>first | rfl | (exfalso;omega)
    exact ⟨(0,2),⟨QI,by first | exact hs.symm | (rw [Qc r_A,Qc r_S,Qc r_n];exact hs.symm)⟩,by rw [Q3],trivial⟩
  refine Qa 4 _ (ZN A (fun x19 rh18_ h18=> ?_))
  have hH:=h18
  have okhH:Qr x19:=by assumption
  have ehH:=QW x19
  have chH:=Zi okhH.dig hH.2.1
  have lhH:=hH.2.2
  refine Yf x16.1 x19 (fun x20 h19=> ?_)
  have hY:=h19
  rw [hD.1,hH.1] at hY
  have chY:=Yr hY
  refine ⟨fun h20=> ?_,fun h20=> ?_⟩
  · refine Qa 4 _ (Qa 4 _ (Qa 4 _ ?_))
    unfold ZV
    have cI:=(JU hI).1 (K4 h17)
    try simp (disch:=assumption) only [Zp] at *
    have hs:XJ A S n=(0,8):=by
      unfold XJ
      (repeat' split)<;>first | rfl | (exfalso;omega)
    exact ⟨(0,8),⟨QI,by first | exact hs.symm | (rw [Qc r_A,Qc r_S,Qc r_n];exact hs.symm)⟩,by rw [Q3],trivial⟩
  refine Qa 4 _ (Qa 4 _ (Qa 4 _ ?_))
  unfold ZV
  have cI:=(JU hI).1 (K4 h17)
  try simp (disch:=assumption) only [Zp] at *
  have ha:x17.1=n*(A+1)/(S+1):=by omega
  have hs:XJ A S n=(n*(A+1)/(S+1),0):=by
    unfold XJ
    (repeat' split)<;>first | rfl | (exfalso;omega)
  exact ⟨(n*(A+1)/(S+1),0),⟨ha▸‹_›,by first | exact hs.symm | (rw [Qc r_A,Qc r_S,Qc r_n];exact hs.symm)⟩,by rw [ha],trivial⟩
theorem Qgz:KL Tryz.prog 63 (fun v=> ∃n0 n1:Int,v= .agg #[.int .u8 n0, .int .u8 n1]):=Qab (f0:=(Tryz.prog.fieldsOf 63).getD 0 default) (f1:=(Tryz.prog.fieldsOf 63).getD 1 default) (by kernel_rfl) (by kernel_rfl) (by kernel_rfl) (by kernel_rfl) (by kernel_rfl) (by kernel_rfl) (by kernel_rfl) (by kernel_rfl) (fun w=>by kernel_rfl) (fun w=>by kernel_rfl) (fun b a c w=>by kernel_rfl)
def QD:JK:=⟨27,1⟩
theorem xU:FY Tryz.prog 25 1 .nilFunc:=FY.of (by kernel_rfl) (by kernel_rfl) (by kernel_rfl) (by kernel_rfl) rfl
abbrev kQ (bj:Nat) (row:Rw) (zv:Value) (zs0:Qf) (zs1:Qf):Prop:= ∃_:Unit,(True)/\zv=ii ((vlen (sv row):Nat):Int)/\zs0=bk bj #[sv row] 27/\zs1=(ss 1 row)/\True
theorem yh (bj:Nat) (row:Rw):QB Tryz.prog 8 none 2000 none (Qk Tryz.f6) (.reg [S0] (.reg [S0,S0,S0, .sem [.rd 0], .eq (Xa),S0] (.done)))
    (Q2 #[pp bj 0] [bk bj #[sv row] 27,(ss 1 row)]) (Q8 Tryz.prog Tryz.f6 [] [0,1] (X:=Unit) (fun _=>ii ((vlen (sv row):Nat):Int)) (fun _=> [bk bj #[sv row] 27,(ss 1 row)]) (fun _=>True))=
    (Qj 1 bj ((Qg Tryz.prog (vS (Builtin.len_ #[25] 3 #[sv row])) (ii ((vlen (sv row):Nat):Int)))/\kQ bj row (ii ((vlen (sv row):Nat):Int)) (bk bj #[sv row] 27) (ss 1 row))):=by kernel_rfl
theorem G9 (bj:Nat) (row:Rw) :QC Tryz.prog 6 #[pp bj 0] [bk bj #[sv row] 27,(ss 1 row)] Unit (fun _=>ii ((vlen (sv row):Nat):Int)) (fun _=> [bk bj #[sv row] 27,(ss 1 row)]) (fun _=>True):=by
  refine Qx (c:=Qk Tryz.f6) (n:=8) (fn:=Tryz.f6) QF Tryz.func6 (by kernel_rfl) (by kernel_rfl) (by kernel_rfl) 2000 _ [] [0,1] rfl rfl (Eq.mpr (yh bj row) ?_)
  exact Qa 1 _ ⟨JP xU 3 row,⟨(),trivial,rfl,rfl,rfl,trivial⟩⟩
noncomputable def BG:List Value->List Qf->ZB:=fun vs hs=>⟨Int,fun J=>ii J,fun _=>hs,fun J=>J=((((KH (Qh hs 0)):List Zf).length:Nat):Int)⟩
theorem dL (bj:Nat) (L:List Zf) :QC Tryz.prog 6 #[.pointer (some ⟨bj,0,none⟩)] [(jS QD bj L)] Int (fun J=> .int .i64 J) (fun J=> [(jS QD bj L)]) (fun J=>(J=(((L:List Zf).length:Nat):Int))):=by
  refine Qfe (Jt (c:=Qk Tryz.f6) Tryz.func6 (by kernel_rfl) (by kernel_rfl)) fun row _ hl=> ?_
  exact (G9 bj row).exists fun _ _=>⟨_,rfl,by rw [WS,hl],Ua.refl _⟩
noncomputable def QM (b:Nat) (m:KV) (key:Value):Zf:=⟨97,b,key,Q1 m key,(ZO s0),4,51,67,5⟩
def Qi:MK:=⟨105,Value.func (.func 22) #[] #[],fun v=> ∃n:Int,v= .int .u8 n,fun x=> ∃v,Jw v/\x=ZO v⟩
theorem xj:Di Tryz.prog Qi 103 5 51 ((ZO s0)) (V:=ST) ZO Jw:=⟨⟨by kernel_rfl,QgI (by kernel_rfl),fun w=>by kernel_rfl⟩,fun _=>Iff.rfl,⟨s0,QgV,rfl⟩⟩
abbrev jY (bj:Nat) (zv:Value) (zs0:Qf) (zs1:Qf):Prop:= ∃J:Nat×Nat,(True)/\zv=pp J.1 0/\zs0= .blk J.1 (.cells #[.map (some J.2),pp bj 0, .func (.func 22) #[] #[]] 105 (0,0))/\zs1= .blk J.2 (.map #[] 0)/\True
theorem jt (bj:Nat):QB Tryz.prog 10 none 2000 none (Qk Tryz.f21) (.reg [S0] (.reg [.sem [.nw 21],S0,S0,S0, .sem [.nw 20],S0] (.done)))
    (Q2 #[pp bj 0, .func (.func 22) #[] #[]] []) (Q8 Tryz.prog Tryz.f21 [] [20,21] (X:=Nat×Nat) (fun J=>pp J.1 0) (fun J=> [.blk J.1 (.cells #[.map (some J.2),pp bj 0, .func (.func 22) #[] #[]] 105 (0,0)), .blk J.2 (.map #[] 0)]) (fun _=>True))=
    (∀b1:Nat,∀b2:Nat,jY bj (pp b2 0) (Qf.blk b2 (.cells #[.map (some b1),pp bj 0, .func (.func 22) #[] #[]] 105 (0,0))) (Qf.blk b1 (.map #[] 0))):=by kernel_rfl
theorem kW (bj:Nat) :QC Tryz.prog 21 #[pp bj 0, .func (.func 22) #[] #[]] [] (Nat×Nat) (fun J=>pp J.1 0) (fun J=> [.blk J.1 (.cells #[.map (some J.2),pp bj 0, .func (.func 22) #[] #[]] 105 (0,0)), .blk J.2 (.map #[] 0)]) (fun _=>True):=by
  refine Qx (c:=Qk Tryz.f21) (n:=10) (fn:=Tryz.f21) QF Tryz.func21 (by kernel_rfl) (by kernel_rfl) (by kernel_rfl) 2000 _ [] [20,21] rfl rfl (Eq.mpr (jt bj) ?_)
  intro b1
  intro b2
  exact ⟨(b2,b1),trivial,rfl,rfl,rfl,trivial⟩
noncomputable def Gs:List Value->List Qf->ZB:=fun vs hs=>⟨Nat,fun J=>pp J 0,fun J=> [(mS Qi J (QJ (Qd vs 1)) ([]))],fun J=>True⟩
theorem Bj (bj:Nat) :QC Tryz.prog 21 #[.pointer (some ⟨bj,0,none⟩), .func (.func 22) #[] #[]] [] Nat (fun J=> .pointer (some ⟨J,0,none⟩)) (fun J=> [(mS Qi J bj ([]))]) (fun J=>(True)):=(kW bj).exists fun x _=>⟨x.1,trivial,rfl,di (K:=Qi) x.1 x.2 bj⟩
abbrev xL (b bj r:Nat) (m:KV) (k:Int) (zv:Value) (zs0:Qf) (zs1:Qf):Prop:= ∃J:ST×Bool,(J.1=D8 ((Q1 m (Value.int .u8 k)).getD ((ZO s0)))/\J.2=(Q1 m (Value.int .u8 k)).isSome)/\zv= .tuple #[ZO (J.1.1,J.1.2.1,J.1.2.2.1,J.1.2.2.2), .bool J.2]/\zs0= .blk b (.cells #[.map (some r),pp bj 0, .func (.func 22) #[] #[]] 105 (0,0))/\zs1=(mo r m)/\True
theorem jo (b bj r:Nat) (m:KV) (k:Int):QB Tryz.prog 19 none 2000 none (Qk Tryz.f37) (.reg [.sem [.nw 2],S0] (.reg [S0,S0,S0, .sem [.rd 0],S0, .specr [1] (ve (V:=ST) ZO Jw ((ZO s0))),S0,S0,S0, .sem [.nw 3], .sem (Zq 16 3),S0] (.reg [.sem (QV 16 3),S0, .sem (Zq 16 2),S0] (.done))))
    (Q2 #[pp b 0, .int .u8 k] [.blk b (.cells #[.map (some r),pp bj 0, .func (.func 22) #[] #[]] 105 (0,0)),(mo r m)]) (Q8 Tryz.prog Tryz.f37 [.rd 2, .rd 2, .rd 2, .rd 2, .rd 2, .rd 2, .rd 2, .rd 2, .rd 2, .rd 2, .rd 2, .rd 2, .rd 2, .rd 2, .rd 2, .rd 2] [0,1] (X:=ST×Bool) (fun J=> .tuple #[ZO (J.1.1,J.1.2.1,J.1.2.2.1,J.1.2.2.2), .bool J.2]) (fun J=> [.blk b (.cells #[.map (some r),pp bj 0, .func (.func 22) #[] #[]] 105 (0,0)),(mo r m)]) (fun J=>(J.1=D8 ((Q1 m (Value.int .u8 k)).getD ((ZO s0)))/\J.2=(Q1 m (Value.int .u8 k)).isSome)))=
    (∀b1:Nat,Qj 1 b (Za Tryz.prog (vS (Instr.lookup 103 (.map (some r)) (.int .u8 k) true)) [(mo r m)] (ST×Bool) (fun J=> .tuple #[ZO (J.1.1,J.1.2.1,J.1.2.2.1,J.1.2.2.2), .bool J.2]) (fun J=>Jw J.1/\J.2=(Q1 m (Value.int .u8 k)).isSome/\ZO J.1=(Q1 m (Value.int .u8 k)).getD ((ZO s0))) (fun x2=> ∀b3:Nat,Qj 16 b3 (Qj 16 b3 (Qj 16 b1 (Qj 16 b1 (xL b bj r m k (Value.tuple #[ZO (x2.1.1,x2.1.2.1,x2.1.2.2.1,x2.1.2.2.2), .bool x2.2]) (Qf.blk b (.cells #[.map (some r),pp bj 0, .func (.func 22) #[] #[]] 105 (0,0))) (mo r m)))))))):=by kernel_rfl
theorem wi (b bj r:Nat) (m:KV) (k:Int) (hk:Xr Qi m):QC Tryz.prog 37 #[pp b 0, .int .u8 k] [.blk b (.cells #[.map (some r),pp bj 0, .func (.func 22) #[] #[]] 105 (0,0)),(mo r m)] (ST×Bool) (fun J=> .tuple #[ZO (J.1.1,J.1.2.1,J.1.2.2.1,J.1.2.2.2), .bool J.2]) (fun J=> [.blk b (.cells #[.map (some r),pp bj 0, .func (.func 22) #[] #[]] 105 (0,0)),(mo r m)]) (fun J=>(J.1=D8 ((Q1 m (Value.int .u8 k)).getD ((ZO s0)))/\J.2=(Q1 m (Value.int .u8 k)).isSome)):=by
  refine Qx (c:=Qk Tryz.f37) (n:=19) (fn:=Tryz.f37) QF Tryz.func37 (by kernel_rfl) (by kernel_rfl) (by kernel_rfl) 2000 _ [.rd 2, .rd 2, .rd 2, .rd 2, .rd 2, .rd 2, .rd 2, .rd 2, .rd 2, .rd 2, .rd 2, .rd 2, .rd 2, .rd 2, .rd 2, .rd 2] [0,1] rfl rfl (Eq.mpr (jo b bj r m k) ?_)
  intro b1
  refine Qa 1 _ (Qy (Qa5 xj hk ⟨_,rfl⟩) (gO xj hk _) fun x2 h1=> ?_)
  have hx:=h1
  intro b3
  exact Qa 16 _ (Qa 16 _ (Qa 16 _ (Qa 16 _ ⟨x2,⟨by rw [←hx.2.2];exact (D7 hx.1).symm,hx.2.1⟩,rfl,rfl,rfl,trivial⟩)))
noncomputable def Gu:List Value->List Qf->ZB:=fun vs hs=>⟨ST×Bool,fun J=> .tuple #[ZO (J.1.1,J.1.2.1,J.1.2.2.1,J.1.2.2.2), .bool J.2],fun _=>hs,fun J=>J.1=D8 ((Q1 (V8 (Qh hs 0)) (Qd vs 2)).getD ((ZO s0)))/\J.2=(Q1 (V8 (Qh hs 0)) (Qd vs 2)).isSome⟩
theorem BA (b bj:Nat) (m:KV) (k:Int) :QC Tryz.prog 37 #[.pointer (some ⟨b,0,none⟩), .int .u8 k] [(mS Qi b bj m)] (ST×Bool) (fun J=> .tuple #[ZO (J.1.1,J.1.2.1,J.1.2.2.1,J.1.2.2.2), .bool J.2]) (fun J=> [(mS Qi b bj m)]) (fun J=>(J.1=D8 ((Q1 m (Value.int .u8 k)).getD ((ZO s0)))/\J.2=(Q1 m (Value.int .u8 k)).isSome)):=by
  refine (VM (m' :=fun _=>m) (us:=fun _=> []) (Jt (c:=Qk Tryz.f37) Tryz.func37 (by kernel_rfl) (by kernel_rfl)) (fun r hk=> ?_) (fun _ _ h=>h))
  exact wi b bj r m k hk
abbrev jf (b bj r:Nat) (row:Rw) (m:KV) (k:Int) (zv:Value) (zs0:Qf) (zs1:Qf) (zs2:Qf) (zs3:Qf) (zs4:Qf) (zs5:Qf) (zs6:Qf) (zs7:Qf):Prop:= ∃J:QK×N4×ST×Bool,(QS J.1=QS row++ [(QM b m (Value.int .u8 k)).fn J.2.1]/\J.2.2.2=(Q1 m (Value.int .u8 k)).isSome/\ZO J.2.2.1=(Q1 m (Value.int .u8 k)).getD ((ZO s0)))/\zv= .tuple #[]/\zs0= .blk b (.cells #[.map (some r),pp bj 0, .func (.func 22) #[] #[]] 105 (0,0))/\zs1=(mo r m)/\zs2=bk bj #[sv J.1] 27/\zs3=(ss 1 J.1)/\zs4=bk J.2.1.1 #[.bool J.2.2.2] 4/\zs5=bk J.2.1.2.1 #[uu (Qb J.2.2.1.1 0),uu (Qb J.2.2.1.1 1),uu (Qb J.2.2.1.1 2),uu (Qb J.2.2.1.1 3),uu (Qb J.2.2.1.2.1 0),uu (Qb J.2.2.1.2.1 1),uu (Qb J.2.2.1.2.1 2),uu (Qb J.2.2.1.2.1 3),uu (Qb J.2.2.1.2.2.1 0),uu (Qb J.2.2.1.2.2.1 1),uu (Qb J.2.2.1.2.2.1 2),uu (Qb J.2.2.1.2.2.1 3),uu (Qb J.2.2.1.2.2.2 0),uu (Qb J.2.2.1.2.2.2 1),uu (Qb J.2.2.1.2.2.2 2),uu (Qb J.2.2.1.2.2.2 3)] 51/\zs6=bk J.2.1.2.2.1 #[pp b 0] 67/\zs7=bk J.2.1.2.2.2 #[.int .u8 k] 5/\True
theorem zg (b bj r:Nat) (row:Rw) (m:KV) (k:Int):QB Tryz.prog 31 none 2000 none (Qk Tryz.f75) (.reg [.sem [.nw 32], .sem [.nw 33]] (.reg [.sem [.rd 32],S0,S0, .sem [.rd 0], .sem [.rd 33], .specr [1] (ve (V:=ST) ZO Jw ((ZO s0))),S0,S0,S0, .sem [.nw 31], .sem [.nw 30], .sem (Zq 16 31), .sem [.wr 30]] (.reg [.sem [.rd 32],S0,S0, .sem [.rd 0], .sem [.rd 32],S0,S0, .sem [.rd 0],S0,S0, .sem [.rd 2],S0, .sem [.nw 4], .specw [3,4] [3,4] (Ji 1),S0,S0, .specw [2] [2] wS] (.done))))
    (Q2 #[pp b 0, .int .u8 k] [.blk b (.cells #[.map (some r),pp bj 0, .func (.func 22) #[] #[]] 105 (0,0)),(mo r m),bk bj #[sv row] 27,(ss 1 row)]) (Q8 Tryz.prog Tryz.f75 [] [0,1,2,3,30,31,32,33] (X:=QK×N4×ST×Bool) (fun J=> .tuple #[]) (fun J=> [.blk b (.cells #[.map (some r),pp bj 0, .func (.func 22) #[] #[]] 105 (0,0)),(mo r m),bk bj #[sv J.1] 27,(ss 1 J.1),bk J.2.1.1 #[.bool J.2.2.2] 4,bk J.2.1.2.1 #[uu (Qb J.2.2.1.1 0),uu (Qb J.2.2.1.1 1),uu (Qb J.2.2.1.1 2),uu (Qb J.2.2.1.1 3),uu (Qb J.2.2.1.2.1 0),uu (Qb J.2.2.1.2.1 1),uu (Qb J.2.2.1.2.1 2),uu (Qb J.2.2.1.2.1 3),uu (Qb J.2.2.1.2.2.1 0),uu (Qb J.2.2.1.2.2.1 1),uu (Qb J.2.2.1.2.2.1 2),uu (Qb J.2.2.1.2.2.1 3),uu (Qb J.2.2.1.2.2.2 0),uu (Qb J.2.2.1.2.2.2 1),uu (Qb J.2.2.1.2.2.2 2),uu (Qb J.2.2.1.2.2.2 3)] 51,bk J.2.1.2.2.1 #[pp b 0] 67,bk J.2.1.2.2.2 #[.int .u8 k] 5]) (fun J=>(QS J.1=QS row++ [(QM b m (Value.int .u8 k)).fn J.2.1]/\J.2.2.2=(Q1 m (Value.int .u8 k)).isSome/\ZO J.2.2.1=(Q1 m (Value.int .u8 k)).getD ((ZO s0)))))=
    (∀b1:Nat,∀b2:Nat,Qj 1 b1 (Qj 1 b (Qj 1 b2 (Za Tryz.prog (vS (Instr.lookup 103 (.map (some r)) (.int .u8 k) true)) [(mo r m)] (ST×Bool) (fun J=> .tuple #[ZO (J.1.1,J.1.2.1,J.1.2.2.1,J.1.2.2.2), .bool J.2]) (fun J=>Jw J.1/\J.2=(Q1 m (Value.int .u8 k)).isSome/\ZO J.1=(Q1 m (Value.int .u8 k)).getD ((ZO s0))) (fun x3=> ∀b4:Nat,∀b5:Nat,Qj 16 b4 (Qj 1 b5 (Qj 1 b1 (Qj 1 b (Qj 1 b1 (Qj 1 b (Qj 1 bj (∀b6:Nat,Xc Tryz.prog (vS (Builtin.append_ #[25,25] 25 #[sv row, .slice (some ⟨b6,0,none⟩) 1 1])) [(ss 1 row), .blk b6 (.cells #[.func (.func 97) #[] #[pp b5 0,pp b4 0,pp b1 0,pp b2 0]] 1 (0,0))] QK (fun J=>sv J) (fun J=> [(ss 1 J), .blk b6 (.cells #[.func (.func 97) #[] #[pp b5 0,pp b4 0,pp b1 0,pp b2 0]] 1 (0,0))]) (fun J=>QS J=ZZ (sv row) (ss 1 row)++ [Value.func (.func 97) #[] #[pp b5 0,pp b4 0,pp b1 0,pp b2 0]]) (fun x7=>Xc Tryz.prog (KJ (Instr.storeAt 25 (pp bj 0) (sv x7))) [bk bj #[sv row] 27] Unit (fun _=> .tuple #[]) (fun _=> [bk bj #[sv x7] 27]) (fun _=>True) (fun _=>jf b bj r row m k (Value.tuple #[]) (Qf.blk b (.cells #[.map (some r),pp bj 0, .func (.func 22) #[] #[]] 105 (0,0))) (mo r m) (bk bj #[sv x7] 27) (ss 1 x7) (bk b5 #[.bool x3.2] 4) (bk b4 #[uu (Qb x3.1.1 0),uu (Qb x3.1.1 1),uu (Qb x3.1.1 2),uu (Qb x3.1.1 3),uu (Qb x3.1.2.1 0),uu (Qb x3.1.2.1 1),uu (Qb x3.1.2.1 2),uu (Qb x3.1.2.1 3),uu (Qb x3.1.2.2.1 0),uu (Qb x3.1.2.2.1 1),uu (Qb x3.1.2.2.1 2),uu (Qb x3.1.2.2.1 3),uu (Qb x3.1.2.2.2 0),uu (Qb x3.1.2.2.2 1),uu (Qb x3.1.2.2.2 2),uu (Qb x3.1.2.2.2 3)] 51) (bk b1 #[pp b 0] 67) (bk b2 #[.int .u8 k] 5))))))))))))))):=by kernel_rfl
theorem y8 (b bj r:Nat) (row:Rw) (m:KV) (k:Int) (hk:Xr Qi m) (hl:(QS row).length<=1073741824):QC Tryz.prog 75 #[pp b 0, .int .u8 k] [.blk b (.cells #[.map (some r),pp bj 0, .func (.func 22) #[] #[]] 105 (0,0)),(mo r m),bk bj #[sv row] 27,(ss 1 row)] (QK×N4×ST×Bool) (fun J=> .tuple #[]) (fun J=> [.blk b (.cells #[.map (some r),pp bj 0, .func (.func 22) #[] #[]] 105 (0,0)),(mo r m),bk bj #[sv J.1] 27,(ss 1 J.1),bk J.2.1.1 #[.bool J.2.2.2] 4,bk J.2.1.2.1 #[uu (Qb J.2.2.1.1 0),uu (Qb J.2.2.1.1 1),uu (Qb J.2.2.1.1 2),uu (Qb J.2.2.1.1 3),uu (Qb J.2.2.1.2.1 0),uu (Qb J.2.2.1.2.1 1),uu (Qb J.2.2.1.2.1 2),uu (Qb J.2.2.1.2.1 3),uu (Qb J.2.2.1.2.2.1 0),uu (Qb J.2.2.1.2.2.1 1),uu (Qb J.2.2.1.2.2.1 2),uu (Qb J.2.2.1.2.2.1 3),uu (Qb J.2.2.1.2.2.2 0),uu (Qb J.2.2.1.2.2.2 1),uu (Qb J.2.2.1.2.2.2 2),uu (Qb J.2.2.1.2.2.2 3)] 51,bk J.2.1.2.2.1 #[pp b 0] 67,bk J.2.1.2.2.2 #[.int .u8 k] 5]) (fun J=>(QS J.1=QS row++ [(QM b m (Value.int .u8 k)).fn J.2.1]/\J.2.2.2=(Q1 m (Value.int .u8 k)).isSome/\ZO J.2.2.1=(Q1 m (Value.int .u8 k)).getD ((ZO s0)))):=by
  refine Qx (c:=Qk Tryz.f75) (n:=31) (fn:=Tryz.f75) QF Tryz.func75 (by kernel_rfl) (by kernel_rfl) (by kernel_rfl) 2000 _ [] [0,1,2,3,30,31,32,33] rfl rfl (Eq.mpr (zg b bj r row m k) ?_)
  intro b1
  intro b2
  refine Qa 1 _ (Qa 1 _ (Qa 1 _ (Qy (Qa5 xj hk ⟨_,rfl⟩) (gO xj hk _) fun x3 h1=> ?_)))
  have hx:=h1
  intro b4
  intro b5
  refine Qa 16 _ (Qa 1 _ (Qa 1 _ (Qa 1 _ (Qa 1 _ (Qa 1 _ (Qa 1 _ (fun b6=>QG (Zv xU 25 row (by rw [ZE];omega) b6 1 (Value.func (.func 97) #[] #[pp b5 0,pp b4 0,pp b1 0,pp b2 0]) rfl) (ZU _) fun x7 h2=> ?_)))))))
  rw [Zd] at h2
  have ha:=h2
  exact QG (Qbe (b:=bj) (cs:= #[sv row]) (ty:=27) (te:=25) (fun w=>by kernel_rfl) 0 (sv x7) (GC _) (dY _) (by show 0<1;decide)) (⟨(),trivial⟩) fun _ _=>⟨(x7,(b5,b4,b1,b2),x3),⟨ha,hx.2.1,hx.2.2⟩,rfl,rfl,rfl,rfl,rfl,rfl,rfl,rfl,rfl,trivial⟩
noncomputable def Wm:List Value->List Qf->ZB:=fun vs hs=>⟨List Zf,fun J=> .tuple #[],fun J=> [.blk (QJ (Qd vs 1)) (.cells #[.map (some (XI (Qh hs 1) 0)), .pointer (some ⟨(QJ (Qw (Qh hs 0) 1)),0,none⟩), .func (.func 22) #[] #[]] 105 (0,0)),(mo (XI (Qh hs 1) 0) (V8 (Qh hs 1))),(jS QD (QJ (Qw (Qh hs 0) 1)) J)],fun J=>J=(KH (Qh hs 2))++ [(QM (QJ (Qd vs 1)) (V8 (Qh hs 1)) (Qd vs 2))]⟩
theorem Fy (b bj r:Nat) (m:KV) (L:List Zf) (k:Int) (hk:Xr Qi m) (hl:L.length<=1073741824):QC Tryz.prog 75 #[.pointer (some ⟨b,0,none⟩), .int .u8 k] [.blk b (.cells #[.map (some r), .pointer (some ⟨bj,0,none⟩), .func (.func 22) #[] #[]] 105 (0,0)),(mo r m),(jS QD bj L)] (List Zf) (fun J=> .tuple #[]) (fun J=> [.blk b (.cells #[.map (some r), .pointer (some ⟨bj,0,none⟩), .func (.func 22) #[] #[]] 105 (0,0)),(mo r m),(jS QD bj J)]) (fun J=>(J=L++ [(QM b m (Value.int .u8 k))])):=by
  have c:=QaL (K:=QD) (bj:=bj) (L:=L) (vv:=ZO) (e:=(QM b m (Value.int .u8 k))) (mk:=fun _=>wI) (Jt (c:=Qk Tryz.f75) Tryz.func75 (by kernel_rfl) (by kernel_rfl)) rfl (fun row hr=>y8 b bj r row m k hk (by omega))
  exact c.exists fun _ _=>⟨_,rfl,rfl,Ua.refl _⟩
abbrev xa (b bj r:Nat) (m:KV) (L:List Zf) (k v0 v1 v2 v3:Int) (zv:Value) (zs0:Qf) (zs1:Qf) (zs2:Qf):Prop:= ∃J:KV×List Zf,(J.1=ZF m (Value.int .u8 k) (ZO (v0,v1,v2,v3))/\J.2=L++ [(QM b m (Value.int .u8 k))])/\zv= .tuple #[]/\zs0= .blk b (.cells #[.map (some r),pp bj 0, .func (.func 22) #[] #[]] 105 (0,0))/\zs1=(mo r J.1)/\zs2=(jS QD bj J.2)/\True
theorem jj (b bj r:Nat) (m:KV) (L:List Zf) (k v0 v1 v2 v3:Int):QB Tryz.prog 15 none 2000 none (Qk Tryz.f44) (.reg [.sem [.nw 3]] (.reg [S0,S0, .callw [0,1,2] [0,1,2] Wm] (.reg [S0,S0,S0, .sem [.rd 0],S0, .sem (QV 16 3), .specw [1] [1] Qa4] (.done))))
    (Q2 #[pp b 0, .int .u8 k,ZO (v0,v1,v2,v3)] [.blk b (.cells #[.map (some r),pp bj 0, .func (.func 22) #[] #[]] 105 (0,0)),(mo r m),(jS QD bj L)]) (Q8 Tryz.prog Tryz.f44 [] [0,1,2] (X:=KV×List Zf) (fun J=> .tuple #[]) (fun J=> [.blk b (.cells #[.map (some r),pp bj 0, .func (.func 22) #[] #[]] 105 (0,0)),(mo r J.1),(jS QD bj J.2)]) (fun J=>(J.1=ZF m (Value.int .u8 k) (ZO (v0,v1,v2,v3))/\J.2=L++ [(QM b m (Value.int .u8 k))])))=
    (∀b1:Nat,Ze Tryz.prog 75 #[pp b 0, .int .u8 k] [.blk b (.cells #[.map (some r),pp bj 0, .func (.func 22) #[] #[]] 105 (0,0)),(mo r m),(jS QD bj L)] (List Zf) (fun J=> .tuple #[]) (fun J=> [.blk b (.cells #[.map (some r),pp bj 0, .func (.func 22) #[] #[]] 105 (0,0)),(mo r m),(jS QD bj J)]) (fun J=>J=L++ [(QM b m (Value.int .u8 k))]) (fun x2=>Qj 1 b (Qj 16 b1 (Xc Tryz.prog (KJ (Instr.mapUpdate 103 (.map (some r)) (.int .u8 k) (ZO (v0,v1,v2,v3)))) [(mo r m)] KV (fun J=> .tuple #[]) (fun J=> [(mo r J)]) (fun J=>J=ZF m (Value.int .u8 k) (ZO (v0,v1,v2,v3))) (fun x3=>xa b bj r m L k v0 v1 v2 v3 (Value.tuple #[]) (Qf.blk b (.cells #[.map (some r),pp bj 0, .func (.func 22) #[] #[]] 105 (0,0))) (mo r x3) (jS QD bj x2)))))):=by kernel_rfl
theorem kI (b bj r:Nat) (m:KV) (L:List Zf) (k v0 v1 v2 v3:Int) (r_v0:R4 v0) (r_v1:R4 v1) (r_v2:R4 v2) (r_v3:R4 v3) (hk:Xr Qi m) (hl:L.length<=1073741824):QC Tryz.prog 44 #[pp b 0, .int .u8 k,ZO (v0,v1,v2,v3)] [.blk b (.cells #[.map (some r),pp bj 0, .func (.func 22) #[] #[]] 105 (0,0)),(mo r m),(jS QD bj L)] (KV×List Zf) (fun J=> .tuple #[]) (fun J=> [.blk b (.cells #[.map (some r),pp bj 0, .func (.func 22) #[] #[]] 105 (0,0)),(mo r J.1),(jS QD bj J.2)]) (fun J=>(J.1=ZF m (Value.int .u8 k) (ZO (v0,v1,v2,v3))/\J.2=L++ [(QM b m (Value.int .u8 k))])):=by
  refine Qx (c:=Qk Tryz.f44) (n:=15) (fn:=Tryz.f44) QF Tryz.func44 (by kernel_rfl) (by kernel_rfl) (by kernel_rfl) 2000 _ [] [0,1,2] rfl rfl (Eq.mpr (jj b bj r m L k v0 v1 v2 v3) ?_)
  intro b1
  refine QH (Fy b bj r m L k (hk) (hl)) (⟨_,rfl⟩) fun x2 h1=> ?_
  have hn:=h1
  refine Qa 1 _ (Qa 16 _ (QG (QfK xj hk ⟨_,rfl⟩ (ZO (v0,v1,v2,v3))) (⟨_,rfl⟩) fun x3 h2=> ?_))
  have hs:=h2
  exact ⟨(_,_),⟨hs,hn⟩,rfl,rfl,rfl,rfl,trivial⟩
noncomputable def XK:List Value->List Qf->ZB:=fun vs hs=>⟨KV×List Zf,fun J=> .tuple #[],fun J=> [(mS Qi (QJ (Qd vs 1)) (XI (Qh hs 0) 1) J.1),(jS QD (XI (Qh hs 0) 1) J.2)],fun J=>J.1=ZF (V8 (Qh hs 0)) (Qd vs 2) (Qd vs 3)/\J.2=(KH (Qh hs 1))++ [(QM (QJ (Qd vs 1)) (V8 (Qh hs 0)) (Qd vs 2))]⟩
theorem Jv (b bj:Nat) (m:KV) (L:List Zf) (k v0 v1 v2 v3:Int) (r_v0:R4 v0) (r_v1:R4 v1) (r_v2:R4 v2) (r_v3:R4 v3)  (hl:L.length<=1073741824):QC Tryz.prog 44 #[.pointer (some ⟨b,0,none⟩), .int .u8 k,ZO (v0,v1,v2,v3)] [(mS Qi b bj m),(jS QD bj L)] (KV×List Zf) (fun J=> .tuple #[]) (fun J=> [(mS Qi b bj J.1),(jS QD bj J.2)]) (fun J=>(J.1=ZF m (Value.int .u8 k) (ZO (v0,v1,v2,v3))/\J.2=L++ [(QM b m (Value.int .u8 k))])):=by
  refine VM (m' :=fun x:KV×List Zf=>x.1) (us:=fun x=> [(jS QD bj x.2)]) (Jt (c:=Qk Tryz.f44) Tryz.func44 (by kernel_rfl) (by kernel_rfl)) (fun r hk=> ?_) (fun x hx h=> ?_)
  · exact (kI b bj r m L k v0 v1 v2 v3 r_v0 r_v1 r_v2 r_v3 hk hl)
  · exact hx.1▸h.set (⟨_,rfl⟩) (⟨(v0,v1,v2,v3),⟨r_v0,r_v1,r_v2,r_v3⟩,rfl⟩)
noncomputable def Zm (b:Nat) (m:KV) (key:Value):Zf:=⟨98,b,key,Q1 m key,vI 0,4,35,70,63⟩
def Qt:MK:=⟨108,Value.func (.func 18) #[] #[],fun v=> ∃n0 n1:Int,v= .agg #[.int .u8 n0, .int .u8 n1],fun x=> ∃v,R4 v/\x=vI v⟩
theorem xz:Di Tryz.prog Qt 106 63 35 (vI 0) (V:=Int) vI R4:=⟨⟨by kernel_rfl,Qgz,fun w=>by kernel_rfl⟩,fun _=>Iff.rfl,⟨0,QI,rfl⟩⟩
abbrev xA (bj:Nat) (zv:Value) (zs0:Qf) (zs1:Qf):Prop:= ∃J:Nat×Nat,(True)/\zv=pp J.1 0/\zs0= .blk J.1 (.cells #[.map (some J.2),pp bj 0, .func (.func 18) #[] #[]] 108 (0,0))/\zs1= .blk J.2 (.map #[] 0)/\True
theorem jg (bj:Nat):QB Tryz.prog 10 none 2000 none (Qk Tryz.f23) (.reg [S0] (.reg [.sem [.nw 21],S0,S0,S0, .sem [.nw 20],S0] (.done)))
    (Q2 #[pp bj 0, .func (.func 18) #[] #[]] []) (Q8 Tryz.prog Tryz.f23 [] [20,21] (X:=Nat×Nat) (fun J=>pp J.1 0) (fun J=> [.blk J.1 (.cells #[.map (some J.2),pp bj 0, .func (.func 18) #[] #[]] 108 (0,0)), .blk J.2 (.map #[] 0)]) (fun _=>True))=
    (∀b1:Nat,∀b2:Nat,xA bj (pp b2 0) (Qf.blk b2 (.cells #[.map (some b1),pp bj 0, .func (.func 18) #[] #[]] 108 (0,0))) (Qf.blk b1 (.map #[] 0))):=by kernel_rfl
theorem kS (bj:Nat) :QC Tryz.prog 23 #[pp bj 0, .func (.func 18) #[] #[]] [] (Nat×Nat) (fun J=>pp J.1 0) (fun J=> [.blk J.1 (.cells #[.map (some J.2),pp bj 0, .func (.func 18) #[] #[]] 108 (0,0)), .blk J.2 (.map #[] 0)]) (fun _=>True):=by
  refine Qx (c:=Qk Tryz.f23) (n:=10) (fn:=Tryz.f23) QF Tryz.func23 (by kernel_rfl) (by kernel_rfl) (by kernel_rfl) 2000 _ [] [20,21] rfl rfl (Eq.mpr (jg bj) ?_)
  intro b1
  intro b2
  exact ⟨(b2,b1),trivial,rfl,rfl,rfl,trivial⟩
noncomputable def Gm:List Value->List Qf->ZB:=fun vs hs=>⟨Nat,fun J=>pp J 0,fun J=> [(mS Qt J (QJ (Qd vs 1)) ([]))],fun J=>True⟩
theorem BU (bj:Nat) :QC Tryz.prog 23 #[.pointer (some ⟨bj,0,none⟩), .func (.func 18) #[] #[]] [] Nat (fun J=> .pointer (some ⟨J,0,none⟩)) (fun J=> [(mS Qt J bj ([]))]) (fun J=>(True)):=(kS bj).exists fun x _=>⟨x.1,trivial,rfl,di (K:=Qt) x.1 x.2 bj⟩
abbrev jX (b bj r:Nat) (m:KV) (k0 k1:Int) (zv:Value) (zs0:Qf) (zs1:Qf):Prop:= ∃J:Int×Bool,(J.1=Qe ((Q1 m (Value.agg #[.int .u8 k0, .int .u8 k1])).getD (vI 0))/\J.2=(Q1 m (Value.agg #[.int .u8 k0, .int .u8 k1])).isSome)/\zv= .tuple #[vI J.1, .bool J.2]/\zs0= .blk b (.cells #[.map (some r),pp bj 0, .func (.func 18) #[] #[]] 108 (0,0))/\zs1=(mo r m)/\True
theorem js (b bj r:Nat) (m:KV) (k0 k1:Int):QB Tryz.prog 19 none 2000 none (Qk Tryz.f36) (.reg [.sem [.nw 2], .sem [.nw 3],S0] (.reg [S0,S0,S0, .sem [.rd 0], .sem [.rd 2, .rd 2], .specr [1] (ve (V:=Int) vI R4 (vI 0)),S0,S0,S0, .sem [.nw 4], .sem (Zq 4 4),S0] (.reg [.sem (QV 4 4),S0, .sem (Zq 4 3),S0] (.done))))
    (Q2 #[pp b 0, .agg #[.int .u8 k0, .int .u8 k1]] [.blk b (.cells #[.map (some r),pp bj 0, .func (.func 18) #[] #[]] 108 (0,0)),(mo r m)]) (Q8 Tryz.prog Tryz.f36 [.rd 3, .rd 3, .rd 3, .rd 3] [0,1] (X:=Int×Bool) (fun J=> .tuple #[vI J.1, .bool J.2]) (fun J=> [.blk b (.cells #[.map (some r),pp bj 0, .func (.func 18) #[] #[]] 108 (0,0)),(mo r m)]) (fun J=>(J.1=Qe ((Q1 m (Value.agg #[.int .u8 k0, .int .u8 k1])).getD (vI 0))/\J.2=(Q1 m (Value.agg #[.int .u8 k0, .int .u8 k1])).isSome)))=
    (∀b1:Nat,∀b2:Nat,Qj 1 b (Qj 2 b1 (Za Tryz.prog (vS (Instr.lookup 106 (.map (some r)) (.agg #[.int .u8 k0, .int .u8 k1]) true)) [(mo r m)] (Int×Bool) (fun J=> .tuple #[vI J.1, .bool J.2]) (fun J=>R4 J.1/\J.2=(Q1 m (Value.agg #[.int .u8 k0, .int .u8 k1])).isSome/\vI J.1=(Q1 m (Value.agg #[.int .u8 k0, .int .u8 k1])).getD (vI 0)) (fun x3=> ∀b4:Nat,Qj 4 b4 (Qj 4 b4 (Qj 4 b2 (Qj 4 b2 (jX b bj r m k0 k1 (Value.tuple #[vI x3.1, .bool x3.2]) (Qf.blk b (.cells #[.map (some r),pp bj 0, .func (.func 18) #[] #[]] 108 (0,0))) (mo r m))))))))):=by kernel_rfl
theorem k9 (b bj r:Nat) (m:KV) (k0 k1:Int) (hk:Xr Qt m):QC Tryz.prog 36 #[pp b 0, .agg #[.int .u8 k0, .int .u8 k1]] [.blk b (.cells #[.map (some r),pp bj 0, .func (.func 18) #[] #[]] 108 (0,0)),(mo r m)] (Int×Bool) (fun J=> .tuple #[vI J.1, .bool J.2]) (fun J=> [.blk b (.cells #[.map (some r),pp bj 0, .func (.func 18) #[] #[]] 108 (0,0)),(mo r m)]) (fun J=>(J.1=Qe ((Q1 m (Value.agg #[.int .u8 k0, .int .u8 k1])).getD (vI 0))/\J.2=(Q1 m (Value.agg #[.int .u8 k0, .int .u8 k1])).isSome)):=by
  refine Qx (c:=Qk Tryz.f36) (n:=19) (fn:=Tryz.f36) QF Tryz.func36 (by kernel_rfl) (by kernel_rfl) (by kernel_rfl) 2000 _ [.rd 3, .rd 3, .rd 3, .rd 3] [0,1] rfl rfl (Eq.mpr (js b bj r m k0 k1) ?_)
  intro b1
  intro b2
  refine Qa 1 _ (Qa 2 _ (Qy (Qa5 xz hk ⟨_,_,rfl⟩) (gO xz hk _) fun x3 h1=> ?_))
  have hx:=h1
  intro b4
  exact Qa 4 _ (Qa 4 _ (Qa 4 _ (Qa 4 _ ⟨_,⟨by rw [←hx.2.2];exact (Qc hx.1).symm,hx.2.1⟩,rfl,rfl,rfl,trivial⟩)))
noncomputable def Hb:List Value->List Qf->ZB:=fun vs hs=>⟨Int×Bool,fun J=> .tuple #[vI J.1, .bool J.2],fun _=>hs,fun J=>J.1=Qe ((Q1 (V8 (Qh hs 0)) (Qd vs 2)).getD (vI 0))/\J.2=(Q1 (V8 (Qh hs 0)) (Qd vs 2)).isSome⟩
theorem DR (b bj:Nat) (m:KV) (k0 k1:Int) :QC Tryz.prog 36 #[.pointer (some ⟨b,0,none⟩), .agg #[.int .u8 k0, .int .u8 k1]] [(mS Qt b bj m)] (Int×Bool) (fun J=> .tuple #[vI J.1, .bool J.2]) (fun J=> [(mS Qt b bj m)]) (fun J=>(J.1=Qe ((Q1 m (Value.agg #[.int .u8 k0, .int .u8 k1])).getD (vI 0))/\J.2=(Q1 m (Value.agg #[.int .u8 k0, .int .u8 k1])).isSome)):=by
  refine (VM (m' :=fun _=>m) (us:=fun _=> []) (Jt (c:=Qk Tryz.f36) Tryz.func36 (by kernel_rfl) (by kernel_rfl)) (fun r hk=> ?_) (fun _ _ h=>h))
  exact k9 b bj r m k0 k1 hk
abbrev ji (b bj r:Nat) (row:Rw) (m:KV) (k0 k1:Int) (zv:Value) (zs0:Qf) (zs1:Qf) (zs2:Qf) (zs3:Qf) (zs4:Qf) (zs5:Qf) (zs6:Qf) (zs7:Qf):Prop:= ∃J:QK×N4×Int×Bool,(QS J.1=QS row++ [(Zm b m (Value.agg #[.int .u8 k0, .int .u8 k1])).fn J.2.1]/\J.2.2.2=(Q1 m (Value.agg #[.int .u8 k0, .int .u8 k1])).isSome/\vI J.2.2.1=(Q1 m (Value.agg #[.int .u8 k0, .int .u8 k1])).getD (vI 0))/\zv= .tuple #[]/\zs0= .blk b (.cells #[.map (some r),pp bj 0, .func (.func 18) #[] #[]] 108 (0,0))/\zs1=(mo r m)/\zs2=bk bj #[sv J.1] 27/\zs3=(ss 1 J.1)/\zs4=bk J.2.1.1 #[.bool J.2.2.2] 4/\zs5=bk J.2.1.2.1 (nC J.2.2.1) 35/\zs6=bk J.2.1.2.2.1 #[pp b 0] 70/\zs7=bk J.2.1.2.2.2 #[.int .u8 k0, .int .u8 k1] 63/\True
theorem qY (b bj r:Nat) (row:Rw) (m:KV) (k0 k1:Int):QB Tryz.prog 31 none 2000 none (Qk Tryz.f76) (.reg [.sem [.nw 32], .sem [.nw 33]] (.reg [.sem [.rd 32],S0,S0, .sem [.rd 0], .sem [.rd 33, .rd 33], .specr [1] (ve (V:=Int) vI R4 (vI 0)),S0,S0,S0, .sem [.nw 31], .sem [.nw 30], .sem (Zq 4 31), .sem [.wr 30]] (.reg [.sem [.rd 32],S0,S0, .sem [.rd 0], .sem [.rd 32],S0,S0, .sem [.rd 0],S0,S0, .sem [.rd 2],S0, .sem [.nw 4], .specw [3,4] [3,4] (Ji 1),S0,S0, .specw [2] [2] wS] (.done))))
    (Q2 #[pp b 0, .agg #[.int .u8 k0, .int .u8 k1]] [.blk b (.cells #[.map (some r),pp bj 0, .func (.func 18) #[] #[]] 108 (0,0)),(mo r m),bk bj #[sv row] 27,(ss 1 row)]) (Q8 Tryz.prog Tryz.f76 [] [0,1,2,3,30,31,32,33] (X:=QK×N4×Int×Bool) (fun J=> .tuple #[]) (fun J=> [.blk b (.cells #[.map (some r),pp bj 0, .func (.func 18) #[] #[]] 108 (0,0)),(mo r m),bk bj #[sv J.1] 27,(ss 1 J.1),bk J.2.1.1 #[.bool J.2.2.2] 4,bk J.2.1.2.1 (nC J.2.2.1) 35,bk J.2.1.2.2.1 #[pp b 0] 70,bk J.2.1.2.2.2 #[.int .u8 k0, .int .u8 k1] 63]) (fun J=>(QS J.1=QS row++ [(Zm b m (Value.agg #[.int .u8 k0, .int .u8 k1])).fn J.2.1]/\J.2.2.2=(Q1 m (Value.agg #[.int .u8 k0, .int .u8 k1])).isSome/\vI J.2.2.1=(Q1 m (Value.agg #[.int .u8 k0, .int .u8 k1])).getD (vI 0))))=
    (∀b1:Nat,∀b2:Nat,Qj 1 b1 (Qj 1 b (Qj 2 b2 (Za Tryz.prog (vS (Instr.lookup 106 (.map (some r)) (.agg #[.int .u8 k0, .int .u8 k1]) true)) [(mo r m)] (Int×Bool) (fun J=> .tuple #[vI J.1, .bool J.2]) (fun J=>R4 J.1/\J.2=(Q1 m (Value.agg #[.int .u8 k0, .int .u8 k1])).isSome/\vI J.1=(Q1 m (Value.agg #[.int .u8 k0, .int .u8 k1])).getD (vI 0)) (fun x3=> ∀b4:Nat,∀b5:Nat,Qj 4 b4 (Qj 1 b5 (Qj 1 b1 (Qj 1 b (Qj 1 b1 (Qj 1 b (Qj 1 bj (∀b6:Nat,Xc Tryz.prog (vS (Builtin.append_ #[25,25] 25 #[sv row, .slice (some ⟨b6,0,none⟩) 1 1])) [(ss 1 row), .blk b6 (.cells #[.func (.func 98) #[] #[pp b5 0,pp b4 0,pp b1 0,pp b2 0]] 1 (0,0))] QK (fun J=>sv J) (fun J=> [(ss 1 J), .blk b6 (.cells #[.func (.func 98) #[] #[pp b5 0,pp b4 0,pp b1 0,pp b2 0]] 1 (0,0))]) (fun J=>QS J=ZZ (sv row) (ss 1 row)++ [Value.func (.func 98) #[] #[pp b5 0,pp b4 0,pp b1 0,pp b2 0]]) (fun x7=>Xc Tryz.prog (KJ (Instr.storeAt 25 (pp bj 0) (sv x7))) [bk bj #[sv row] 27] Unit (fun _=> .tuple #[]) (fun _=> [bk bj #[sv x7] 27]) (fun _=>True) (fun _=>ji b bj r row m k0 k1 (Value.tuple #[]) (Qf.blk b (.cells #[.map (some r),pp bj 0, .func (.func 18) #[] #[]] 108 (0,0))) (mo r m) (bk bj #[sv x7] 27) (ss 1 x7) (bk b5 #[.bool x3.2] 4) (bk b4 (nC x3.1) 35) (bk b1 #[pp b 0] 70) (bk b2 #[.int .u8 k0, .int .u8 k1] 63))))))))))))))):=by kernel_rfl
end Go.Proofs
