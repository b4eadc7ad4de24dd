/- Contracts of this program's functions, and their proofs, printed by a program of the prover's own (see the claim's other texts for what the words mean). -/
import Derived.Test.YtcldageggmpeaaaL17SolventC2
set_option linter.unusedVariables false
set_option linter.unusedSimpArgs false
namespace Go.Proofs
open Go.Sx
set_option maxRecDepth 100000 in
set_option maxHeartbeats 1000000 in
theorem share_In (A S n:Int) (r_A:R4 A) (r_S:R4 S) (r_n:R4 n):share_In_A A S n (fun za zh zv zu zp=>CallT Try.prog 79 za zh (Int×Int) zv zu zp):=by
  refine call_of (c:=bodyOf Try.f79) (n:=66) (fn:=Try.f79) Try.mixed Try.func79 (by kernel_rfl) (by kernel_rfl) (by kernel_rfl) 2000 _ [.rd 3, .rd 3, .rd 3, .rd 3] [] rfl rfl (Eq.mpr (share_In_vc A S n) ?_)
  have g0:=r_A.1;have g1:=r_S.1;have g2:=r_n.1
  have qn:=quo_nonneg r_n.1 r_S.1 r_A.1
  intro b1
  intro b2
  intro b3
  intro b4
  refine rdQ_mk 4 _ ⟨Try.xeq25 n 0,⟨fun h1=> ?_,fun h1=> ?_⟩⟩
  · refine rdQ_mk 4 _ (rdQ_mk 4 _ (rdQ_mk 4 _ ?_))
    unfold share_In_Q
    try simp (disch:=first | assumption | exact R4_zero | exact R4_one) only [rdx] at *
    have ha:n=0:=by omega
    have hs:sIn A S n=(0,3):=by
      unfold sIn
      (repeat' split)<;>first | rfl | (exfalso;omega)
    exact ⟨(0,3),⟨R4_zero,by first | exact hs.symm | (rw [num_vI r_A,num_vI r_S,num_vI r_n];exact hs.symm)⟩,by rw [ha],trivial⟩
  refine rdQ_mk 4 _ (rdQ_mk 4 _ (share_more_m A S (fun x5 rh2_1 rh2_21 h2=> ?_)))
  have cm:=sMore_cases h2
  intro b6
  intro b7
  refine rdQ_mk 4 _ (rdQ_mk 4 _ ⟨fun h3=> ?_,fun h3=> ?_⟩)
  · refine rdQ_mk 4 _ (rdQ_mk 4 _ ?_)
    unfold share_In_Q
    try simp (disch:=first | assumption | exact R4_zero | exact R4_one) only [rdx] at *
    have he:x5.2.2=2:=by omega
    have hs:sIn A S n=(0,2):=by
      unfold sIn
      (repeat' split)<;>first | rfl | (exfalso;omega)
    exact ⟨(0,2),⟨R4_zero,by first | exact hs.symm | (rw [num_vI r_A,num_vI r_S,num_vI r_n];exact hs.symm)⟩,by rw [he,vI_zero],trivial⟩
  refine rdQ_mk 4 _ (rdQ_mk 4 _ (rdQ_mk 4 _ (wide_MulDiv_m n x5.2.1 x5.1 (fun x8 rh4_1 h4=> ?_))))
  have cq:=wMulDiv_cases h4 (by try simp (disch:=first | assumption | exact R4_zero | exact R4_one) only [rdx] at *;omega)
  rw [show x5.2.1=S+1 from by try simp (disch:=first | assumption | exact R4_zero | exact R4_one) only [rdx] at *;omega,show x5.1=A+1 from by try simp (disch:=first | assumption | exact R4_zero | exact R4_one) only [rdx] at *;omega] at cq
  intro b9
  refine rdQ_mk 4 _ ⟨fun h5=> ?_,fun h5=> ?_⟩
  · refine rdQ_mk 4 _ (rdQ_mk 4 _ ?_)
    unfold share_In_Q
    try simp (disch:=first | assumption | exact R4_zero | exact R4_one) only [rdx] at *
    have he:x8.2=2:=by omega
    have hs:sIn A S n=(0,2):=by
      unfold sIn
      (repeat' split)<;>first | rfl | (exfalso;omega)
    exact ⟨(0,2),⟨R4_zero,by first | exact hs.symm | (rw [num_vI r_A,num_vI r_S,num_vI r_n];exact hs.symm)⟩,by rw [he,vI_zero],trivial⟩
  refine rdQ_mk 4 _ ⟨Try.xeq25 x8.1 0,⟨fun h6=> ?_,fun h6=> ?_⟩⟩
  · refine rdQ_mk 4 _ (rdQ_mk 4 _ (rdQ_mk 4 _ ?_))
    unfold share_In_Q
    try simp (disch:=first | assumption | exact R4_zero | exact R4_one) only [rdx] at *
    have ha:x8.1=0:=by omega
    have hs:sIn A S n=(0,3):=by
      unfold sIn
      (repeat' split)<;>first | rfl | (exfalso;omega)
    exact ⟨(0,3),⟨R4_zero,by first | exact hs.symm | (rw [num_vI r_A,num_vI r_S,num_vI r_n];exact hs.symm)⟩,by rw [ha],trivial⟩
  refine rdQ_mk 4 _ (rdQ_mk 4 _ (huge_Add_m A n (fun x10 rh7_1 h7=> ?_)))
  have ha:=h7
  have cha:=hAdd_cases h7
  refine rdQ_mk 4 _ (rdQ_mk 4 _ (huge_Add_m S x8.1 (fun x11 rh8_1 h8=> ?_)))
  have hb:=h8
  have chb:=hAdd_cases h8
  intro b12
  refine rdQ_mk 4 _ ⟨fun h9=> ?_,fun h9=> ?_⟩
  · refine ⟨⟨(),trivial,congrArg Value.bool h9⟩,fun _=>fun _=>⟨rfl,rfl,⟨rfl,rdQ_mk 4 _ (rdQ_mk 4 _ ?_)⟩⟩⟩
    unfold share_In_Q
    try simp (disch:=first | assumption | exact R4_zero | exact R4_one) only [rdx] at *
    have hs:sIn A S n=(0,2):=by
      unfold sIn
      (repeat' split)<;>first | rfl | (exfalso;omega)
    exact ⟨(0,2),⟨R4_zero,by first | exact hs.symm | (rw [num_vI r_A,num_vI r_S,num_vI r_n];exact hs.symm)⟩,by rw [vI_zero],trivial⟩
  refine ⟨⟨(),trivial,congrArg Value.bool h9⟩,fun _=>fun _=>⟨rfl,rfl,⟨fun h10=> ?_,fun h10=> ?_⟩⟩⟩
  · refine rdQ_mk 4 _ (rdQ_mk 4 _ ?_)
    unfold share_In_Q
    try simp (disch:=first | assumption | exact R4_zero | exact R4_one) only [rdx] at *
    have hs:sIn A S n=(0,2):=by
      unfold sIn
      (repeat' split)<;>first | rfl | (exfalso;omega)
    exact ⟨(0,2),⟨R4_zero,by first | exact hs.symm | (rw [num_vI r_A,num_vI r_S,num_vI r_n];exact hs.symm)⟩,by rw [vI_zero],trivial⟩
  refine rdQ_mk 4 _ (rdQ_mk 4 _ (rdQ_mk 4 _ ?_))
  unfold share_In_Q
  try simp (disch:=first | assumption | exact R4_zero | exact R4_one) only [rdx] at *
  have ha:x8.1=n*(S+1)/(A+1):=by omega
  have hs:sIn A S n=(n*(S+1)/(A+1),0):=by
    unfold sIn
    (repeat' split)<;>first | rfl | (exfalso;omega)
  exact ⟨(n*(S+1)/(A+1),0),⟨ha▸(by assumption),by first | exact hs.symm | (rw [num_vI r_A,num_vI r_S,num_vI r_n];exact hs.symm)⟩,by rw [ha],trivial⟩
abbrev share_In_K (A S n:Int) (KK:(Int×Int)->Prop):Prop:=share_In_A A S n (fun za zh zv zu zp=>callQr Try.prog 79 za zh (Int×Int) zv zp KK)
theorem share_In_m (A S n:Int) {KK:(Int×Int)->Prop} (kont: ∀zx:Int×Int,R4 zx.1->(zx=sIn A S n)->KK zx) (r_A:R4 A:=by assumption) (r_S:R4 S:=by assumption) (r_n:R4 n:=by assumption):share_In_K A S n KK:=callQr_mk (share_In A S n r_A r_S r_n) (⟨_,sIn_R (by first | exact R4_num _ | exact r_A) (by first | exact R4_num _ | exact r_S) (by first | exact R4_num _ | exact r_n),rfl⟩) fun zx hz=>by
  obtain ⟨rhz_1,hz⟩:=hz
  try simp only [num_vI (n:=A) r_A,num_vI (n:=S) r_S,num_vI (n:=n) r_n] at hz
  exact kont zx rhz_1 hz
def share_Out_C:List Value->List Slot->Ctr:=fun vs hs=>⟨Int×Int,fun zx=> .tuple #[vI zx.1, .int .i64 zx.2],fun _=>hs,fun zx=>R4 zx.1/\zx=sOut (num (varg vs 1)) (num (varg vs 2)) (num (varg vs 3))⟩
abbrev share_Out_Q (A S n:Int) (zv:Value) :Prop:= ∃zx:Int×Int,(R4 zx.1/\zx=sOut (num (vI A)) (num (vI S)) (num (vI n)))/\zv= .tuple #[vI zx.1, .int .i64 zx.2]/\True
abbrev share_Out_A (A S n:Int) (zF:SF (Int×Int)):Prop:=zF #[vI A,vI S,vI n] [] (fun zx=> .tuple #[vI zx.1, .int .i64 zx.2]) (fun zx=> []) (fun zx=>(R4 zx.1/\zx=sOut (num (vI A)) (num (vI S)) (num (vI n))))
set_option maxRecDepth 100000 in
set_option maxHeartbeats 1000000 in
theorem share_Out_vc (A S n:Int):share_Out_A A S n (fun za zh zv zu zp=>codeW Try.prog 53 none 2000 none (bodyOf Try.f85) (.reg [.sem [.nw 0], .sem [.nw 1], .sem [.nw 2], .sem [.nw 3],S0] (.reg [.sem (rds 4 2),S0, .eq (f_eq),S0] (.cond (.reg [.sem (rds 4 2), .sem (wrs 4 3),S0] (.done)) (.reg [.sem (rds 4 2), .sem (rds 4 1), .callr [] huge_Cmp_C,S0,S0] (.cond (.reg [S0, .sem (wrs 4 3),S0] (.done)) (.reg [.sem (rds 4 0), .sem (rds 4 1), .callr [] share_more_C,S0,S0,S0,S0, .sem [.nw 4], .sem [.nw 5], .sem (wrs 4 4), .sem (wrs 4 5),S0] (.reg [S0,S0] (.cond (.reg [S0,S0, .sem (wrs 4 3),S0] (.done)) (.reg [.sem (rds 4 2), .sem (rds 4 4), .sem (rds 4 5), .callr [] wide_MulDiv_C,S0,S0,S0, .sem [.nw 6], .sem (wrs 4 6),S0] (.reg [S0,S0,S0] (.cond (.reg [S0,S0, .sem (wrs 4 3),S0] (.done)) (.reg [.sem (rds 4 6), .sem (rds 4 0), .callr [] huge_Cmp_C,S0,S0] (.cond (.reg [S0, .sem (wrs 4 3),S0] (.done)) (.reg [.sem (rds 4 6), .sem (wrs 4 3),S0] (.done)))))))))))))))
    (init za zh) (finW Try.prog Try.f85 [.rd 3, .rd 3, .rd 3, .rd 3] [] (X:=Int×Int) zv zu zp))=
    (∀b1:Nat,∀b2:Nat,∀b3:Nat,∀b4:Nat,rdQ 4 b3 ((PureRun Try.prog (xBin .eql 25 (vI n) (vI 0)) (.bool (num (vI n)==num (vI 0))))/\((num (vI n)==num (vI 0))=true->rdQ 4 b3 (rdQ 4 b4 (rdQ 4 b4 (share_Out_Q A S n (Value.tuple #[vI n, .int .i64 3])))))/\((num (vI n)==num (vI 0))=false->rdQ 4 b3 (rdQ 4 b2 (huge_Cmp_K n S (fun _=>((decide ((hCmp (num (vI n)) (num (vI S)))>(0:Int)))=true->rdQ 4 b4 (rdQ 4 b4 (share_Out_Q A S n (Value.tuple #[.agg #[uu 0,uu 0,uu 0,uu 0], .int .i64 8]))))/\((decide ((hCmp (num (vI n)) (num (vI S)))>(0:Int)))=false->rdQ 4 b1 (rdQ 4 b2 (share_more_K A S (fun x5=> ∀b6:Nat,∀b7:Nat,rdQ 4 b6 (rdQ 4 b7 (((x5.2.2 !=(0:Int))=true->rdQ 4 b4 (rdQ 4 b4 (share_Out_Q A S n (Value.tuple #[.agg #[uu 0,uu 0,uu 0,uu 0], .int .i64 x5.2.2]))))/\((x5.2.2 !=(0:Int))=false->rdQ 4 b3 (rdQ 4 b6 (rdQ 4 b7 (wide_MulDiv_K n x5.1 x5.2.1 (fun x8=> ∀b9:Nat,rdQ 4 b9 (((x8.2 !=(0:Int))=true->rdQ 4 b4 (rdQ 4 b4 (share_Out_Q A S n (Value.tuple #[.agg #[uu 0,uu 0,uu 0,uu 0], .int .i64 x8.2]))))/\((x8.2 !=(0:Int))=false->rdQ 4 b9 (rdQ 4 b1 (huge_Cmp_K x8.1 A (fun _=>((decide ((hCmp (num (vI x8.1)) (num (vI A)))>(0:Int)))=true->rdQ 4 b4 (rdQ 4 b4 (share_Out_Q A S n (Value.tuple #[.agg #[uu 0,uu 0,uu 0,uu 0], .int .i64 8]))))/\((decide ((hCmp (num (vI x8.1)) (num (vI A)))>(0:Int)))=false->rdQ 4 b9 (rdQ 4 b4 (rdQ 4 b4 (share_Out_Q A S n (Value.tuple #[vI x8.1, .int .i64 0]))))))))))))))))))))))))))):=by kernel_rfl
set_option maxRecDepth 100000 in
set_option maxHeartbeats 1000000 in
theorem share_Out (A S n:Int) (r_A:R4 A) (r_S:R4 S) (r_n:R4 n):share_Out_A A S n (fun za zh zv zu zp=>CallT Try.prog 85 za zh (Int×Int) zv zu zp):=by
  refine call_of (c:=bodyOf Try.f85) (n:=53) (fn:=Try.f85) Try.mixed Try.func85 (by kernel_rfl) (by kernel_rfl) (by kernel_rfl) 2000 _ [.rd 3, .rd 3, .rd 3, .rd 3] [] rfl rfl (Eq.mpr (share_Out_vc A S n) ?_)
  have g0:=r_A.1;have g1:=r_S.1;have g2:=r_n.1
  have qn:=quo_nonneg r_n.1 r_A.1 r_S.1
  intro b1
  intro b2
  intro b3
  intro b4
  refine rdQ_mk 4 _ ⟨Try.xeq25 n 0,⟨fun h1=> ?_,fun h1=> ?_⟩⟩
  · refine rdQ_mk 4 _ (rdQ_mk 4 _ (rdQ_mk 4 _ ?_))
    unfold share_Out_Q
    try simp (disch:=first | assumption | exact R4_zero | exact R4_one) only [rdx] at *
    have ha:n=0:=by omega
    have hs:sOut A S n=(0,3):=by
      unfold sOut
      (repeat' split)<;>first | rfl | (exfalso;omega)
    exact ⟨(0,3),⟨R4_zero,by first | exact hs.symm | (rw [num_vI r_A,num_vI r_S,num_vI r_n];exact hs.symm)⟩,by rw [ha],trivial⟩
  refine rdQ_mk 4 _ (rdQ_mk 4 _ (huge_Cmp_m n S ⟨fun h2=> ?_,fun h2=> ?_⟩))
  · refine rdQ_mk 4 _ (rdQ_mk 4 _ ?_)
    unfold share_Out_Q
    try simp (disch:=first | assumption | exact R4_zero | exact R4_one) only [rdx] at *
    have hs:sOut A S n=(0,8):=by
      unfold sOut
      (repeat' split)<;>first | rfl | (exfalso;omega)
    exact ⟨(0,8),⟨R4_zero,by first | exact hs.symm | (rw [num_vI r_A,num_vI r_S,num_vI r_n];exact hs.symm)⟩,by rw [vI_zero],trivial⟩
  refine rdQ_mk 4 _ (rdQ_mk 4 _ (share_more_m A S (fun x5 rh3_1 rh3_21 h3=> ?_)))
  have cm:=sMore_cases h3
  intro b6
  intro b7
  refine rdQ_mk 4 _ (rdQ_mk 4 _ ⟨fun h4=> ?_,fun h4=> ?_⟩)
  · refine rdQ_mk 4 _ (rdQ_mk 4 _ ?_)
    unfold share_Out_Q
    try simp (disch:=first | assumption | exact R4_zero | exact R4_one) only [rdx] at *
    have he:x5.2.2=2:=by omega
    have hs:sOut A S n=(0,2):=by
      unfold sOut
      (repeat' split)<;>first | rfl | (exfalso;omega)
    exact ⟨(0,2),⟨R4_zero,by first | exact hs.symm | (rw [num_vI r_A,num_vI r_S,num_vI r_n];exact hs.symm)⟩,by rw [he,vI_zero],trivial⟩
  refine rdQ_mk 4 _ (rdQ_mk 4 _ (rdQ_mk 4 _ (wide_MulDiv_m n x5.1 x5.2.1 (fun x8 rh5_1 h5=> ?_))))
  have cq:=wMulDiv_cases h5 (by try simp (disch:=first | assumption | exact R4_zero | exact R4_one) only [rdx] at *;omega)
  rw [show x5.1=A+1 from by try simp (disch:=first | assumption | exact R4_zero | exact R4_one) only [rdx] at *;omega,show x5.2.1=S+1 from by try simp (disch:=first | assumption | exact R4_zero | exact R4_one) only [rdx] at *;omega] at cq
  intro b9
  refine rdQ_mk 4 _ ⟨fun h6=> ?_,fun h6=> ?_⟩
  · refine rdQ_mk 4 _ (rdQ_mk 4 _ ?_)
    unfold share_Out_Q
    try simp (disch:=first | assumption | exact R4_zero | exact R4_one) only [rdx] at *
    have he:x8.2=2:=by omega
    have hs:sOut A S n=(0,2):=by
      unfold sOut
      (repeat' split)<;>first | rfl | (exfalso;omega)
    exact ⟨(0,2),⟨R4_zero,by first | exact hs.symm | (rw [num_vI r_A,num_vI r_S,num_vI r_n];exact hs.symm)⟩,by rw [he,vI_zero],trivial⟩
  refine rdQ_mk 4 _ (rdQ_mk 4 _ (huge_Cmp_m x8.1 A ⟨fun h7=> ?_,fun h7=> ?_⟩))
  · refine rdQ_mk 4 _ (rdQ_mk 4 _ ?_)
    unfold share_Out_Q
    try simp (disch:=first | assumption | exact R4_zero | exact R4_one) only [rdx] at *
    have hs:sOut A S n=(0,8):=by
      unfold sOut
      (repeat' split)<;>first | rfl | (exfalso;omega)
    exact ⟨(0,8),⟨R4_zero,by first | exact hs.symm | (rw [num_vI r_A,num_vI r_S,num_vI r_n];exact hs.symm)⟩,by rw [vI_zero],trivial⟩
  refine rdQ_mk 4 _ (rdQ_mk 4 _ (rdQ_mk 4 _ ?_))
  unfold share_Out_Q
  try simp (disch:=first | assumption | exact R4_zero | exact R4_one) only [rdx] at *
  have ha:x8.1=n*(A+1)/(S+1):=by omega
  have hs:sOut A S n=(n*(A+1)/(S+1),0):=by
    unfold sOut
    (repeat' split)<;>first | rfl | (exfalso;omega)
  exact ⟨(n*(A+1)/(S+1),0),⟨ha▸(by assumption),by first | exact hs.symm | (rw [num_vI r_A,num_vI r_S,num_vI r_n];exact hs.symm)⟩,by rw [ha],trivial⟩
abbrev share_Out_K (A S n:Int) (KK:(Int×Int)->Prop):Prop:=share_Out_A A S n (fun za zh zv zu zp=>callQr Try.prog 85 za zh (Int×Int) zv zp KK)
theorem share_Out_m (A S n:Int) {KK:(Int×Int)->Prop} (kont: ∀zx:Int×Int,R4 zx.1->(zx=sOut A S n)->KK zx) (r_A:R4 A:=by assumption) (r_S:R4 S:=by assumption) (r_n:R4 n:=by assumption):share_Out_K A S n KK:=callQr_mk (share_Out A S n r_A r_S r_n) (⟨_,sOut_R (by first | exact R4_num _ | exact r_A) (by first | exact R4_num _ | exact r_S) (by first | exact R4_num _ | exact r_n),rfl⟩) fun zx hz=>by
  obtain ⟨rhz_1,hz⟩:=hz
  try simp only [num_vI (n:=A) r_A,num_vI (n:=S) r_S,num_vI (n:=n) r_n] at hz
  exact kont zx rhz_1 hz
def ref16_In_C:List Value->List Slot->Ctr:=fun vs hs=>⟨Int×Int,fun zx=> .tuple #[vI zx.1, .int .i64 zx.2],fun _=>hs,fun zx=>R4 zx.1/\zx=sIn (num (varg vs 1)) (num (varg vs 2)) (num (varg vs 3))⟩
abbrev ref16_In_Q (A S n:Int) (zv:Value) :Prop:= ∃zx:Int×Int,(R4 zx.1/\zx=sIn (num (vI A)) (num (vI S)) (num (vI n)))/\zv= .tuple #[vI zx.1, .int .i64 zx.2]/\True
abbrev ref16_In_A (A S n:Int) (zF:SF (Int×Int)):Prop:=zF #[vI A,vI S,vI n] [] (fun zx=> .tuple #[vI zx.1, .int .i64 zx.2]) (fun zx=> []) (fun zx=>(R4 zx.1/\zx=sIn (num (vI A)) (num (vI S)) (num (vI n))))
set_option maxRecDepth 100000 in
set_option maxHeartbeats 1000000 in
theorem ref16_In_vc (A S n:Int):ref16_In_A A S n (fun za zh zv zu zp=>codeW Try.prog 69 none 2000 none (bodyOf Try.f140) (.reg [.sem [.nw 0], .sem [.nw 1], .sem [.nw 2], .sem [.nw 3],S0] (.reg [S0, .sem [.nw 4], .sem (wrs 4 4)] (.reg [.sem (rds 4 2), .sem (rds 4 4), .eq (f_eq)] (.cond (.reg [.sem (rds 4 4), .sem (wrs 4 3),S0] (.done)) (.caseP (fun s=>decide (115792089237316195423570985008687907853269984665640564039457584007913129639936<=num (.agg (scells (s.H 0)))+1)) (.reg [.sem (rds 4 0), .callw [] [5] ref16_one_C, .eq (f_len), .gen [] (Sx.one (.bool true)),S0, .no, .no, .no, .no,S0] (.condT (.reg [.sem (rds 4 4), .sem (wrs 4 3),S0] (.done)))) (.reg [.sem (rds 4 0), .callw [] [5] ref16_one_C, .eq (f_len), .gen [] (Sx.one (.bool false)),S0, .sem (rds 4 1), .callw [] [6] ref16_one_C, .eq (f_len),S0,S0] (.cond (.reg [.sem (rds 4 4), .sem (wrs 4 3),S0] (.done)) (.reg [.sem (rds 4 2), .callw [] [7] ref2_Row_C, .sem (rds 4 1), .callw [] [8] ref16_one_C, .callw [7,8] [7,8,9] ref1_Mul_C, .sem (rds 4 0), .callw [] [10] ref16_one_C, .callw [9,10] [9,10,11,12] ref1_Div_C,S0,S0,S0,S0,S0] (.reg [S0, .callw [11] [11] ref2_Int_C,S0,S0,S0, .sem [.nw 13], .sem (wrs 4 13),S0] (.reg [S0,S0] (.cond (.reg [.sem (rds 4 4), .sem (wrs 4 3),S0] (.done)) (.reg [.sem (rds 4 13), .sem (rds 4 4), .eq (f_eq)] (.cond (.reg [.sem (rds 4 4), .sem (wrs 4 3),S0] (.done)) (.caseP (fun s=>decide (115792089237316195423570985008687907853269984665640564039457584007913129639936<=num (.agg (scells (s.H 0)))+num (.agg (scells (s.H 2))))) (.reg [.sem (rds 4 0), .callw [] [14] ref2_Row_C, .sem (rds 4 2), .callw [] [15] ref2_Row_C, .callw [14,15] [14,15,16] ref1_Add_C, .eq (f_len), .gen [] (Sx.one (.bool true)),S0, .no, .no, .no, .no, .no, .no,S0] (.condT (.reg [.sem (rds 4 4), .sem (wrs 4 3),S0] (.done)))) (.reg [.sem (rds 4 0), .callw [] [14] ref2_Row_C, .sem (rds 4 2), .callw [] [15] ref2_Row_C, .callw [14,15] [14,15,16] ref1_Add_C, .eq (f_len), .gen [] (Sx.one (.bool false)),S0, .sem (rds 4 1), .callw [] [17] ref2_Row_C,S0, .callw [17,11] [17,11,18] ref1_Add_C, .eq (f_len),S0,S0] (.cond (.reg [.sem (rds 4 4), .sem (wrs 4 3),S0] (.done)) (.reg [.sem (rds 4 13), .sem (wrs 4 3),S0] (.done))))))))))))))))))
    (init za zh) (finW Try.prog Try.f140 [.rd 3, .rd 3, .rd 3, .rd 3] [] (X:=Int×Int) zv zu zp))=
    (∀b1:Nat,∀b2:Nat,∀b3:Nat,∀b4:Nat,∀b5:Nat,rdQ 4 b5 (rdQ 4 b3 (rdQ 4 b5 ((PureRun Try.prog (xBin .eql 25 (vI n) (vI 0)) (.bool (num (vI n)==num (vI 0))))/\((num (vI n)==num (vI 0))=true->rdQ 4 b5 (rdQ 4 b4 (rdQ 4 b4 (ref16_In_Q A S n (Value.tuple #[.agg #[uu 0,uu 0,uu 0,uu 0], .int .i64 3])))))/\((num (vI n)==num (vI 0))=false->((decide (115792089237316195423570985008687907853269984665640564039457584007913129639936<=num (vI A)+1))=true->rdQ 4 b1 (ref16_one_K A (fun x6=>(PureRun Try.prog (vS (Builtin.len_ #[173] 3 #[sv x6])) (.int .i64 ((vlen (sv x6):Nat):Int)))/\(∃_:Unit,True/\Value.bool (decide (((vlen (sv x6):Nat):Int)>(16:Int)))= .bool true)/\ ∀_:Unit,(True)->true= !false/\true= !false/\true= !false/\true= !false/\(true=true)/\rdQ 4 b5 (rdQ 4 b4 (rdQ 4 b4 (ref16_In_Q A S n (Value.tuple #[.agg #[uu 0,uu 0,uu 0,uu 0], .int .i64 2])))))))/\((decide (115792089237316195423570985008687907853269984665640564039457584007913129639936<=num (vI A)+1))=false->rdQ 4 b1 (ref16_one_K A (fun x7=>(PureRun Try.prog (vS (Builtin.len_ #[173] 3 #[sv x7])) (.int .i64 ((vlen (sv x7):Nat):Int)))/\(∃_:Unit,True/\Value.bool (decide (((vlen (sv x7):Nat):Int)>(16:Int)))= .bool false)/\ ∀_:Unit,(True)->false=false/\rdQ 4 b2 (false=false/\ref16_one_K S (fun x8=>false=false/\(PureRun Try.prog (vS (Builtin.len_ #[173] 3 #[sv x8])) (.int .i64 ((vlen (sv x8):Nat):Int)))/\false=false/\((decide (((vlen (sv x8):Nat):Int)>(16:Int)))=true->rdQ 4 b5 (rdQ 4 b4 (rdQ 4 b4 (ref16_In_Q A S n (Value.tuple #[.agg #[uu 0,uu 0,uu 0,uu 0], .int .i64 2])))))/\((decide (((vlen (sv x8):Nat):Int)>(16:Int)))=false->rdQ 4 b3 (ref2_Row_K n (fun x9=>rdQ 4 b2 (ref16_one_K S (fun x10=>ref1_Mul_K x9 x10 (fun x11=>rdQ 4 b1 (ref16_one_K A (fun x12=>ref1_Div_K x11 x12 (fun x13=>ref2_Int_K x13.1 (fun x14=> ∀b15:Nat,rdQ 4 b15 (((!x14.2)=true->rdQ 4 b5 (rdQ 4 b4 (rdQ 4 b4 (ref16_In_Q A S n (Value.tuple #[.agg #[uu 0,uu 0,uu 0,uu 0], .int .i64 2])))))/\((!x14.2)=false->rdQ 4 b15 (rdQ 4 b5 ((PureRun Try.prog (xBin .eql 25 (vI x14.1) (vI 0)) (.bool (num (vI x14.1)==num (vI 0))))/\((num (vI x14.1)==num (vI 0))=true->rdQ 4 b5 (rdQ 4 b4 (rdQ 4 b4 (ref16_In_Q A S n (Value.tuple #[.agg #[uu 0,uu 0,uu 0,uu 0], .int .i64 3])))))/\((num (vI x14.1)==num (vI 0))=false->((decide (115792089237316195423570985008687907853269984665640564039457584007913129639936<=num (vI A)+num (vI n)))=true->rdQ 4 b1 (ref2_Row_K A (fun x16=>rdQ 4 b3 (ref2_Row_K n (fun x17=>ref1_Add_K x16 x17 (fun x18=>(PureRun Try.prog (vS (Builtin.len_ #[173] 3 #[sv x18])) (.int .i64 ((vlen (sv x18):Nat):Int)))/\(∃_:Unit,True/\Value.bool (decide (((vlen (sv x18):Nat):Int)>(16:Int)))= .bool true)/\ ∀_:Unit,(True)->true= !false/\true= !false/\true= !false/\true= !false/\true= !false/\true= !false/\(true=true)/\rdQ 4 b5 (rdQ 4 b4 (rdQ 4 b4 (ref16_In_Q A S n (Value.tuple #[.agg #[uu 0,uu 0,uu 0,uu 0], .int .i64 2]))))))))))/\((decide (115792089237316195423570985008687907853269984665640564039457584007913129639936<=num (vI A)+num (vI n)))=false->rdQ 4 b1 (ref2_Row_K A (fun x19=>rdQ 4 b3 (ref2_Row_K n (fun x20=>ref1_Add_K x19 x20 (fun x21=>(PureRun Try.prog (vS (Builtin.len_ #[173] 3 #[sv x21])) (.int .i64 ((vlen (sv x21):Nat):Int)))/\(∃_:Unit,True/\Value.bool (decide (((vlen (sv x21):Nat):Int)>(16:Int)))= .bool false)/\ ∀_:Unit,(True)->false=false/\rdQ 4 b2 (false=false/\ref2_Row_K S (fun x22=>false=false/\false=false/\ref1_Add_K x22 x13.1 (fun x23=>false=false/\(PureRun Try.prog (vS (Builtin.len_ #[173] 3 #[sv x23])) (.int .i64 ((vlen (sv x23):Nat):Int)))/\false=false/\((decide (((vlen (sv x23):Nat):Int)>(16:Int)))=true->rdQ 4 b5 (rdQ 4 b4 (rdQ 4 b4 (ref16_In_Q A S n (Value.tuple #[.agg #[uu 0,uu 0,uu 0,uu 0], .int .i64 2])))))/\((decide (((vlen (sv x23):Nat):Int)>(16:Int)))=false->rdQ 4 b15 (rdQ 4 b4 (rdQ 4 b4 (ref16_In_Q A S n (Value.tuple #[vI x14.1, .int .i64 0]))))))))))))))))))))))))))))))))))))))):=by kernel_rfl
set_option maxRecDepth 100000 in
set_option maxHeartbeats 1000000 in
theorem ref16_In (A S n:Int) (r_A:R4 A) (r_S:R4 S) (r_n:R4 n):ref16_In_A A S n (fun za zh zv zu zp=>CallT Try.prog 140 za zh (Int×Int) zv zu zp):=by
  refine call_of (c:=bodyOf Try.f140) (n:=69) (fn:=Try.f140) Try.mixed Try.func140 (by kernel_rfl) (by kernel_rfl) (by kernel_rfl) 2000 _ [.rd 3, .rd 3, .rd 3, .rd 3] [] rfl rfl (Eq.mpr (ref16_In_vc A S n) ?_)
  have g0:=r_A.1;have g1:=r_S.1;have g2:=r_n.1
  have qn:=quo_nonneg r_n.1 r_S.1 r_A.1
  intro b1
  intro b2
  intro b3
  intro b4
  intro b5
  refine rdQ_mk 4 _ (rdQ_mk 4 _ (rdQ_mk 4 _ ⟨Try.xeq25 n 0,⟨fun h1=> ?_,fun h1=> ?_⟩⟩))
  · refine rdQ_mk 4 _ (rdQ_mk 4 _ (rdQ_mk 4 _ ?_))
    unfold ref16_In_Q
    try simp (disch:=first | assumption | exact R4_zero | exact R4_one) only [rdx] at *
    have hs:sIn A S n=(0,3):=by
      unfold sIn
      (repeat' split)<;>first | rfl | (exfalso;omega)
    exact ⟨(0,3),⟨R4_zero,by first | exact hs.symm | (rw [num_vI r_A,num_vI r_S,num_vI r_n];exact hs.symm)⟩,by rw [vI_zero],trivial⟩
  refine ⟨fun h2=> ?_,fun h2=> ?_⟩
  · have kk0:=of_decide_eq_true h2
    simp only [num_vI r_A,num_vI r_S,num_vI r_n] at kk0
    refine rdQ_mk 4 _ (ref16_one_m A (fun x6 rh3_ h3=> ?_))
    have hO:=h3
    have okhO:RowOK x6:=by assumption
    have ehO:=vlen_dg x6
    have chO:=canon_pos okhO.dig hO.2.1
    have lhO:=hO.2.2
    have shO:=canon16 okhO.dig hO.2.1
    refine ⟨xlen Try.sl173 3 x6,⟨(),trivial,congrArg Value.bool (by first | exact decide_eq_true (by omega) | exact decide_eq_false (by omega))⟩,fun _=>fun _=>⟨rfl,rfl,rfl,rfl,⟨rfl,rdQ_mk 4 _ (rdQ_mk 4 _ (rdQ_mk 4 _ ?_))⟩⟩⟩
    unfold ref16_In_Q
    try simp (disch:=first | assumption | exact R4_zero | exact R4_one) only [rdx] at *
    have hs:sIn A S n=(0,2):=by
      unfold sIn
      (repeat' split)<;>first | rfl | (exfalso;omega)
    exact ⟨(0,2),⟨R4_zero,by first | exact hs.symm | (rw [num_vI r_A,num_vI r_S,num_vI r_n];exact hs.symm)⟩,by rw [vI_zero],trivial⟩
  have kk0:=of_decide_eq_false h2
  simp only [num_vI r_A,num_vI r_S,num_vI r_n] at kk0
  refine rdQ_mk 4 _ (ref16_one_m A (fun x7 rh4_ h4=> ?_))
  have hO:=h4
  have okhO:RowOK x7:=by assumption
  have ehO:=vlen_dg x7
  have chO:=canon_pos okhO.dig hO.2.1
  have lhO:=hO.2.2
  have shO:=canon16 okhO.dig hO.2.1
  refine ⟨xlen Try.sl173 3 x7,⟨(),trivial,congrArg Value.bool (by first | exact decide_eq_true (by omega) | exact decide_eq_false (by omega))⟩,fun _=>fun _=>⟨rfl,rdQ_mk 4 _ ⟨rfl,ref16_one_m S (fun x8 rh5_ h5=> ?_)⟩⟩⟩
  have hP:=h5
  have okhP:RowOK x8:=by assumption
  have ehP:=vlen_dg x8
  have chP:=canon_pos okhP.dig hP.2.1
  have lhP:=hP.2.2
  have shP:=canon16 okhP.dig hP.2.1
  refine ⟨rfl,xlen Try.sl173 3 x8,rfl,⟨fun h6=> ?_,fun h6=> ?_⟩⟩
  · refine rdQ_mk 4 _ (rdQ_mk 4 _ (rdQ_mk 4 _ ?_))
    unfold ref16_In_Q
    try simp (disch:=first | assumption | exact R4_zero | exact R4_one) only [rdx] at *
    have hs:sIn A S n=(0,2):=by
      unfold sIn
      (repeat' split)<;>first | rfl | (exfalso;omega)
    exact ⟨(0,2),⟨R4_zero,by first | exact hs.symm | (rw [num_vI r_A,num_vI r_S,num_vI r_n];exact hs.symm)⟩,by rw [vI_zero],trivial⟩
  have hA1:A+1<115792089237316195423570985008687907853269984665640564039457584007913129639936:=by (try simp (disch:=first | assumption | exact R4_zero | exact R4_one) only [rdx] at *);omega
  have hS1:S+1<115792089237316195423570985008687907853269984665640564039457584007913129639936:=by (try simp (disch:=first | assumption | exact R4_zero | exact R4_one) only [rdx] at *);omega
  have R1:R4 (S+1):=⟨by omega,hS1⟩
  refine rdQ_mk 4 _ (ref2_Row_m n (fun x9 rh7_ h7=> ?_))
  have hT:=h7
  have okhT:RowOK x9:=by assumption
  have ehT:=vlen_dg x9
  have chT:=canon_pos okhT.dig hT.2.1
  have lhT:=hT.2.2
  refine rdQ_mk 4 _ (ref16_one_m S (fun x10 rh8_ h8=> ?_))
  have hU:=h8
  have okhU:RowOK x10:=by assumption
  have ehU:=vlen_dg x10
  have chU:=canon_pos okhU.dig hU.2.1
  have lhU:=hU.2.2
  have shU:=canon16 okhU.dig hU.2.1
  refine ref1_Mul_m x9 x10 (fun x11 rh9_ h9=> ?_)
  have hM:=h9
  have lM:(dg x11).length<=64:=len40 (RowOK.dig (by assumption)) hM.2 (by rw [hM.1,hT.1,hU.1]) (wide_num (prod_R r_n R1))
  refine rdQ_mk 4 _ (ref16_one_m A (fun x12 rh10_ h10=> ?_))
  have hV:=h10
  have okhV:RowOK x12:=by assumption
  have ehV:=vlen_dg x12
  have chV:=canon_pos okhV.dig hV.2.1
  have lhV:=hV.2.2
  have shV:=canon16 okhV.dig hV.2.1
  refine ref1_Div_m x11 x12 (fun x13 rh11_1 rh11_2 h11=> ?_) (hb:=by rw [hV.1];omega)
  have hD:=h11
  rw [hM.1,hT.1,hU.1,hV.1] at hD
  have okq:RowOK x13.1:=by assumption
  have l40:(dg x13.1).length<=64:=len40 okq.dig hD.2.2.1 hD.1 (wide_num (quo_R8 (prod_R r_n R1) (by omega)))
  refine ref2_Int_m x13.1 (fun x14 rh12_1 h12=> ?_)
  have hI:=h12
  rw [hD.1] at hI
  intro b15
  refine rdQ_mk 4 _ ⟨fun h13=> ?_,fun h13=> ?_⟩
  · refine rdQ_mk 4 _ (rdQ_mk 4 _ (rdQ_mk 4 _ ?_))
    unfold ref16_In_Q
    have cI:=(rInt_cases hI).2 (not_t h13)
    try simp (disch:=first | assumption | exact R4_zero | exact R4_one) only [rdx] at *
    have hs:sIn A S n=(0,2):=by
      unfold sIn
      (repeat' split)<;>first | rfl | (exfalso;omega)
    exact ⟨(0,2),⟨R4_zero,by first | exact hs.symm | (rw [num_vI r_A,num_vI r_S,num_vI r_n];exact hs.symm)⟩,by rw [vI_zero],trivial⟩
  refine rdQ_mk 4 _ (rdQ_mk 4 _ ⟨Try.xeq25 x14.1 0,⟨fun h14=> ?_,fun h14=> ?_⟩⟩)
  · refine rdQ_mk 4 _ (rdQ_mk 4 _ (rdQ_mk 4 _ ?_))
    unfold ref16_In_Q
    have cI:=(rInt_cases hI).1 (not_f h13)
    try simp (disch:=first | assumption | exact R4_zero | exact R4_one) only [rdx] at *
    have hs:sIn A S n=(0,3):=by
      unfold sIn
      (repeat' split)<;>first | rfl | (exfalso;omega)
    exact ⟨(0,3),⟨R4_zero,by first | exact hs.symm | (rw [num_vI r_A,num_vI r_S,num_vI r_n];exact hs.symm)⟩,by rw [vI_zero],trivial⟩
  refine ⟨fun h15=> ?_,fun h15=> ?_⟩
  · have kk0:=of_decide_eq_true h15
    simp only [num_vI r_A,num_vI r_S,num_vI r_n] at kk0
    refine rdQ_mk 4 _ (ref2_Row_m A (fun x16 rh16_ h16=> ?_))
    have hE:=h16
    have okhE:RowOK x16:=by assumption
    have ehE:=vlen_dg x16
    have chE:=canon_pos okhE.dig hE.2.1
    have lhE:=hE.2.2
    refine rdQ_mk 4 _ (ref2_Row_m n (fun x17 rh17_ h17=> ?_))
    have hF:=h17
    have okhF:RowOK x17:=by assumption
    have ehF:=vlen_dg x17
    have chF:=canon_pos okhF.dig hF.2.1
    have lhF:=hF.2.2
    refine ref1_Add_m x16 x17 (fun x18 rh18_ h18=> ?_)
    have hG:=h18
    have okhG:RowOK x18:=by assumption
    have ehG:=vlen_dg x18
    have shG:=canon16 okhG.dig hG.2
    have nG:nv (dg x18)=A+n:=by rw [hG.1,hE.1,hF.1]
    refine ⟨xlen Try.sl173 3 x18,⟨(),trivial,congrArg Value.bool (by first | exact decide_eq_true (by omega) | exact decide_eq_false (by omega))⟩,fun _=>fun _=>⟨rfl,rfl,rfl,rfl,rfl,rfl,⟨rfl,rdQ_mk 4 _ (rdQ_mk 4 _ (rdQ_mk 4 _ ?_))⟩⟩⟩
    unfold ref16_In_Q
    have cI:=(rInt_cases hI).1 (not_f h13)
    try simp (disch:=first | assumption | exact R4_zero | exact R4_one) only [rdx] at *
    have hs:sIn A S n=(0,2):=by
      unfold sIn
      (repeat' split)<;>first | rfl | (exfalso;omega)
    exact ⟨(0,2),⟨R4_zero,by first | exact hs.symm | (rw [num_vI r_A,num_vI r_S,num_vI r_n];exact hs.symm)⟩,by rw [vI_zero],trivial⟩
  have kk0:=of_decide_eq_false h15
  simp only [num_vI r_A,num_vI r_S,num_vI r_n] at kk0
  refine rdQ_mk 4 _ (ref2_Row_m A (fun x19 rh19_ h19=> ?_))
  have hE:=h19
  have okhE:RowOK x19:=by assumption
  have ehE:=vlen_dg x19
  have chE:=canon_pos okhE.dig hE.2.1
  have lhE:=hE.2.2
  refine rdQ_mk 4 _ (ref2_Row_m n (fun x20 rh20_ h20=> ?_))
  have hF:=h20
  have okhF:RowOK x20:=by assumption
  have ehF:=vlen_dg x20
  have chF:=canon_pos okhF.dig hF.2.1
  have lhF:=hF.2.2
  refine ref1_Add_m x19 x20 (fun x21 rh21_ h21=> ?_)
  have hG:=h21
  have okhG:RowOK x21:=by assumption
  have ehG:=vlen_dg x21
  have shG:=canon16 okhG.dig hG.2
  have nG:nv (dg x21)=A+n:=by rw [hG.1,hE.1,hF.1]
  refine ⟨xlen Try.sl173 3 x21,⟨(),trivial,congrArg Value.bool (by first | exact decide_eq_true (by omega) | exact decide_eq_false (by omega))⟩,fun _=>fun _=>⟨rfl,rdQ_mk 4 _ ⟨rfl,ref2_Row_m S (fun x22 rh22_ h22=> ?_)⟩⟩⟩
  have hH:=h22
  have okhH:RowOK x22:=by assumption
  have ehH:=vlen_dg x22
  have chH:=canon_pos okhH.dig hH.2.1
  have lhH:=hH.2.2
  refine ⟨rfl,rfl,ref1_Add_m x22 x13.1 (fun x23 rh23_ h23=> ?_)⟩
  have hJ:=h23
  have okhJ:RowOK x23:=by assumption
  have ehJ:=vlen_dg x23
  have shJ:=canon16 okhJ.dig hJ.2
  have nJ:nv (dg x23)=S+n*(S+1)/(A+1):=by rw [hJ.1,hH.1,hD.1]
  refine ⟨rfl,xlen Try.sl173 3 x23,rfl,⟨fun h24=> ?_,fun h24=> ?_⟩⟩
  · refine rdQ_mk 4 _ (rdQ_mk 4 _ (rdQ_mk 4 _ ?_))
    unfold ref16_In_Q
    have cI:=(rInt_cases hI).1 (not_f h13)
    try simp (disch:=first | assumption | exact R4_zero | exact R4_one) only [rdx] at *
    have hs:sIn A S n=(0,2):=by
      unfold sIn
      (repeat' split)<;>first | rfl | (exfalso;omega)
    exact ⟨(0,2),⟨R4_zero,by first | exact hs.symm | (rw [num_vI r_A,num_vI r_S,num_vI r_n];exact hs.symm)⟩,by rw [vI_zero],trivial⟩
  refine rdQ_mk 4 _ (rdQ_mk 4 _ (rdQ_mk 4 _ ?_))
  unfold ref16_In_Q
  have cI:=(rInt_cases hI).1 (not_f h13)
  try simp (disch:=first | assumption | exact R4_zero | exact R4_one) only [rdx] at *
  have ha:x14.1=n*(S+1)/(A+1):=by omega
  have hs:sIn A S n=(n*(S+1)/(A+1),0):=by
    unfold sIn
    (repeat' split)<;>first | rfl | (exfalso;omega)
  exact ⟨(n*(S+1)/(A+1),0),⟨ha▸(by assumption),by first | exact hs.symm | (rw [num_vI r_A,num_vI r_S,num_vI r_n];exact hs.symm)⟩,by rw [ha],trivial⟩
abbrev ref16_In_K (A S n:Int) (KK:(Int×Int)->Prop):Prop:=ref16_In_A A S n (fun za zh zv zu zp=>callQr Try.prog 140 za zh (Int×Int) zv zp KK)
theorem ref16_In_m (A S n:Int) {KK:(Int×Int)->Prop} (kont: ∀zx:Int×Int,R4 zx.1->(zx=sIn A S n)->KK zx) (r_A:R4 A:=by assumption) (r_S:R4 S:=by assumption) (r_n:R4 n:=by assumption):ref16_In_K A S n KK:=callQr_mk (ref16_In A S n r_A r_S r_n) (⟨_,sIn_R (by first | exact R4_num _ | exact r_A) (by first | exact R4_num _ | exact r_S) (by first | exact R4_num _ | exact r_n),rfl⟩) fun zx hz=>by
  obtain ⟨rhz_1,hz⟩:=hz
  try simp only [num_vI (n:=A) r_A,num_vI (n:=S) r_S,num_vI (n:=n) r_n] at hz
  exact kont zx rhz_1 hz
def ref16_Out_C:List Value->List Slot->Ctr:=fun vs hs=>⟨Int×Int,fun zx=> .tuple #[vI zx.1, .int .i64 zx.2],fun _=>hs,fun zx=>R4 zx.1/\zx=sOut (num (varg vs 1)) (num (varg vs 2)) (num (varg vs 3))⟩
abbrev ref16_Out_Q (A S n:Int) (zv:Value) :Prop:= ∃zx:Int×Int,(R4 zx.1/\zx=sOut (num (vI A)) (num (vI S)) (num (vI n)))/\zv= .tuple #[vI zx.1, .int .i64 zx.2]/\True
abbrev ref16_Out_A (A S n:Int) (zF:SF (Int×Int)):Prop:=zF #[vI A,vI S,vI n] [] (fun zx=> .tuple #[vI zx.1, .int .i64 zx.2]) (fun zx=> []) (fun zx=>(R4 zx.1/\zx=sOut (num (vI A)) (num (vI S)) (num (vI n))))
set_option maxRecDepth 100000 in
set_option maxHeartbeats 1000000 in
theorem ref16_Out_vc (A S n:Int):ref16_Out_A A S n (fun za zh zv zu zp=>codeW Try.prog 62 none 2000 none (bodyOf Try.f144) (.reg [.sem [.nw 0], .sem [.nw 1], .sem [.nw 2], .sem [.nw 3],S0] (.reg [S0, .sem [.nw 4], .sem (wrs 4 4)] (.reg [.sem (rds 4 2), .sem (rds 4 4), .eq (f_eq)] (.cond (.reg [.sem (rds 4 4), .sem (wrs 4 3),S0] (.done)) (.reg [.sem (rds 4 2), .callw [] [5] ref2_Row_C, .sem (rds 4 1), .callw [] [6] ref2_Row_C, .callr [5,6] ref1_Cmp_C,S0] (.cond (.reg [.sem (rds 4 4), .sem (wrs 4 3),S0] (.done)) (.caseP (fun s=>decide (115792089237316195423570985008687907853269984665640564039457584007913129639936<=num (.agg (scells (s.H 0)))+1)) (.reg [.sem (rds 4 0), .callw [] [7] ref16_one_C, .eq (f_len), .gen [] (Sx.one (.bool true)),S0, .no, .no, .no, .no,S0] (.condT (.reg [.sem (rds 4 4), .sem (wrs 4 3),S0] (.done)))) (.reg [.sem (rds 4 0), .callw [] [7] ref16_one_C, .eq (f_len), .gen [] (Sx.one (.bool false)),S0, .sem (rds 4 1), .callw [] [8] ref16_one_C, .eq (f_len),S0,S0] (.cond (.reg [.sem (rds 4 4), .sem (wrs 4 3),S0] (.done)) (.reg [.sem (rds 4 2), .callw [] [9] ref2_Row_C, .sem (rds 4 0), .callw [] [10] ref16_one_C, .callw [9,10] [9,10,11] ref1_Mul_C, .sem (rds 4 1), .callw [] [12] ref16_one_C, .callw [11,12] [11,12,13,14] ref1_Div_C,S0,S0,S0,S0,S0] (.reg [S0, .callw [13] [13] ref2_Int_C,S0,S0,S0, .sem [.nw 15], .sem (wrs 4 15),S0] (.reg [S0,S0] (.cond (.reg [.sem (rds 4 4), .sem (wrs 4 3),S0] (.done)) (.reg [S0, .sem (rds 4 0), .callw [] [16] ref2_Row_C, .callr [13,16] ref1_Cmp_C,S0] (.cond (.reg [.sem (rds 4 4), .sem (wrs 4 3),S0] (.done)) (.reg [.sem (rds 4 15), .sem (wrs 4 3),S0] (.done)))))))))))))))))
    (init za zh) (finW Try.prog Try.f144 [.rd 3, .rd 3, .rd 3, .rd 3] [] (X:=Int×Int) zv zu zp))=
    (∀b1:Nat,∀b2:Nat,∀b3:Nat,∀b4:Nat,∀b5:Nat,rdQ 4 b5 (rdQ 4 b3 (rdQ 4 b5 ((PureRun Try.prog (xBin .eql 25 (vI n) (vI 0)) (.bool (num (vI n)==num (vI 0))))/\((num (vI n)==num (vI 0))=true->rdQ 4 b5 (rdQ 4 b4 (rdQ 4 b4 (ref16_Out_Q A S n (Value.tuple #[.agg #[uu 0,uu 0,uu 0,uu 0], .int .i64 3])))))/\((num (vI n)==num (vI 0))=false->rdQ 4 b3 (ref2_Row_K n (fun x6=>rdQ 4 b2 (ref2_Row_K S (fun x7=>ref1_Cmp_K x6 x7 (fun x8=>((decide (x8>(0:Int)))=true->rdQ 4 b5 (rdQ 4 b4 (rdQ 4 b4 (ref16_Out_Q A S n (Value.tuple #[.agg #[uu 0,uu 0,uu 0,uu 0], .int .i64 8])))))/\((decide (x8>(0:Int)))=false->((decide (115792089237316195423570985008687907853269984665640564039457584007913129639936<=num (vI A)+1))=true->rdQ 4 b1 (ref16_one_K A (fun x9=>(PureRun Try.prog (vS (Builtin.len_ #[173] 3 #[sv x9])) (.int .i64 ((vlen (sv x9):Nat):Int)))/\(∃_:Unit,True/\Value.bool (decide (((vlen (sv x9):Nat):Int)>(16:Int)))= .bool true)/\ ∀_:Unit,(True)->true= !false/\true= !false/\true= !false/\true= !false/\(true=true)/\rdQ 4 b5 (rdQ 4 b4 (rdQ 4 b4 (ref16_Out_Q A S n (Value.tuple #[.agg #[uu 0,uu 0,uu 0,uu 0], .int .i64 2])))))))/\((decide (115792089237316195423570985008687907853269984665640564039457584007913129639936<=num (vI A)+1))=false->rdQ 4 b1 (ref16_one_K A (fun x10=>(PureRun Try.prog (vS (Builtin.len_ #[173] 3 #[sv x10])) (.int .i64 ((vlen (sv x10):Nat):Int)))/\(∃_:Unit,True/\Value.bool (decide (((vlen (sv x10):Nat):Int)>(16:Int)))= .bool false)/\ ∀_:Unit,(True)->false=false/\rdQ 4 b2 (false=false/\ref16_one_K S (fun x11=>false=false/\(PureRun Try.prog (vS (Builtin.len_ #[173] 3 #[sv x11])) (.int .i64 ((vlen (sv x11):Nat):Int)))/\false=false/\((decide (((vlen (sv x11):Nat):Int)>(16:Int)))=true->rdQ 4 b5 (rdQ 4 b4 (rdQ 4 b4 (ref16_Out_Q A S n (Value.tuple #[.agg #[uu 0,uu 0,uu 0,uu 0], .int .i64 2])))))/\((decide (((vlen (sv x11):Nat):Int)>(16:Int)))=false->rdQ 4 b3 (ref2_Row_K n (fun x12=>rdQ 4 b1 (ref16_one_K A (fun x13=>ref1_Mul_K x12 x13 (fun x14=>rdQ 4 b2 (ref16_one_K S (fun x15=>ref1_Div_K x14 x15 (fun x16=>ref2_Int_K x16.1 (fun x17=> ∀b18:Nat,rdQ 4 b18 (((!x17.2)=true->rdQ 4 b5 (rdQ 4 b4 (rdQ 4 b4 (ref16_Out_Q A S n (Value.tuple #[.agg #[uu 0,uu 0,uu 0,uu 0], .int .i64 2])))))/\((!x17.2)=false->rdQ 4 b1 (ref2_Row_K A (fun x19=>ref1_Cmp_K x16.1 x19 (fun x20=>((decide (x20>(0:Int)))=true->rdQ 4 b5 (rdQ 4 b4 (rdQ 4 b4 (ref16_Out_Q A S n (Value.tuple #[.agg #[uu 0,uu 0,uu 0,uu 0], .int .i64 8])))))/\((decide (x20>(0:Int)))=false->rdQ 4 b18 (rdQ 4 b4 (rdQ 4 b4 (ref16_Out_Q A S n (Value.tuple #[vI x17.1, .int .i64 0])))))))))))))))))))))))))))))))))))):=by kernel_rfl
set_option maxRecDepth 100000 in
set_option maxHeartbeats 1000000 in
theorem ref16_Out (A S n:Int) (r_A:R4 A) (r_S:R4 S) (r_n:R4 n):ref16_Out_A A S n (fun za zh zv zu zp=>CallT Try.prog 144 za zh (Int×Int) zv zu zp):=by
  refine call_of (c:=bodyOf Try.f144) (n:=62) (fn:=Try.f144) Try.mixed Try.func144 (by kernel_rfl) (by kernel_rfl) (by kernel_rfl) 2000 _ [.rd 3, .rd 3, .rd 3, .rd 3] [] rfl rfl (Eq.mpr (ref16_Out_vc A S n) ?_)
  have g0:=r_A.1;have g1:=r_S.1;have g2:=r_n.1
  have qn:=quo_nonneg r_n.1 r_A.1 r_S.1
  intro b1
  intro b2
  intro b3
  intro b4
  intro b5
  refine rdQ_mk 4 _ (rdQ_mk 4 _ (rdQ_mk 4 _ ⟨Try.xeq25 n 0,⟨fun h1=> ?_,fun h1=> ?_⟩⟩))
  · refine rdQ_mk 4 _ (rdQ_mk 4 _ (rdQ_mk 4 _ ?_))
    unfold ref16_Out_Q
    try simp (disch:=first | assumption | exact R4_zero | exact R4_one) only [rdx] at *
    have hs:sOut A S n=(0,3):=by
      unfold sOut
      (repeat' split)<;>first | rfl | (exfalso;omega)
    exact ⟨(0,3),⟨R4_zero,by first | exact hs.symm | (rw [num_vI r_A,num_vI r_S,num_vI r_n];exact hs.symm)⟩,by rw [vI_zero],trivial⟩
  refine rdQ_mk 4 _ (ref2_Row_m n (fun x6 rh2_ h2=> ?_))
  have hE:=h2
  have okhE:RowOK x6:=by assumption
  have ehE:=vlen_dg x6
  have chE:=canon_pos okhE.dig hE.2.1
  have lhE:=hE.2.2
  refine rdQ_mk 4 _ (ref2_Row_m S (fun x7 rh3_ h3=> ?_))
  have hF:=h3
  have okhF:RowOK x7:=by assumption
  have ehF:=vlen_dg x7
  have chF:=canon_pos okhF.dig hF.2.1
  have lhF:=hF.2.2
  refine ref1_Cmp_m x6 x7 (fun x8 h4=> ?_)
  have hX:=h4
  rw [hE.1,hF.1] at hX
  have chX:=hCmp_split hX
  refine ⟨fun h5=> ?_,fun h5=> ?_⟩
  · refine rdQ_mk 4 _ (rdQ_mk 4 _ (rdQ_mk 4 _ ?_))
    unfold ref16_Out_Q
    try simp (disch:=first | assumption | exact R4_zero | exact R4_one) only [rdx] at *
    have hs:sOut A S n=(0,8):=by
      unfold sOut
      (repeat' split)<;>first | rfl | (exfalso;omega)
    exact ⟨(0,8),⟨R4_zero,by first | exact hs.symm | (rw [num_vI r_A,num_vI r_S,num_vI r_n];exact hs.symm)⟩,by rw [vI_zero],trivial⟩
  refine ⟨fun h6=> ?_,fun h6=> ?_⟩
  · have kk0:=of_decide_eq_true h6
    simp only [num_vI r_A,num_vI r_S,num_vI r_n] at kk0
    refine rdQ_mk 4 _ (ref16_one_m A (fun x9 rh7_ h7=> ?_))
    have hO:=h7
    have okhO:RowOK x9:=by assumption
    have ehO:=vlen_dg x9
    have chO:=canon_pos okhO.dig hO.2.1
    have lhO:=hO.2.2
    have shO:=canon16 okhO.dig hO.2.1
    refine ⟨xlen Try.sl173 3 x9,⟨(),trivial,congrArg Value.bool (by first | exact decide_eq_true (by omega) | exact decide_eq_false (by omega))⟩,fun _=>fun _=>⟨rfl,rfl,rfl,rfl,⟨rfl,rdQ_mk 4 _ (rdQ_mk 4 _ (rdQ_mk 4 _ ?_))⟩⟩⟩
    unfold ref16_Out_Q
    try simp (disch:=first | assumption | exact R4_zero | exact R4_one) only [rdx] at *
    have hs:sOut A S n=(0,2):=by
      unfold sOut
      (repeat' split)<;>first | rfl | (exfalso;omega)
    exact ⟨(0,2),⟨R4_zero,by first | exact hs.symm | (rw [num_vI r_A,num_vI r_S,num_vI r_n];exact hs.symm)⟩,by rw [vI_zero],trivial⟩
  have kk0:=of_decide_eq_false h6
  simp only [num_vI r_A,num_vI r_S,num_vI r_n] at kk0
  refine rdQ_mk 4 _ (ref16_one_m A (fun x10 rh8_ h8=> ?_))
  have hO:=h8
  have okhO:RowOK x10:=by assumption
  have ehO:=vlen_dg x10
  have chO:=canon_pos okhO.dig hO.2.1
  have lhO:=hO.2.2
  have shO:=canon16 okhO.dig hO.2.1
  refine ⟨xlen Try.sl173 3 x10,⟨(),trivial,congrArg Value.bool (by first | exact decide_eq_true (by omega) | exact decide_eq_false (by omega))⟩,fun _=>fun _=>⟨rfl,rdQ_mk 4 _ ⟨rfl,ref16_one_m S (fun x11 rh9_ h9=> ?_)⟩⟩⟩
  have hP:=h9
  have okhP:RowOK x11:=by assumption
  have ehP:=vlen_dg x11
  have chP:=canon_pos okhP.dig hP.2.1
  have lhP:=hP.2.2
  have shP:=canon16 okhP.dig hP.2.1
  refine ⟨rfl,xlen Try.sl173 3 x11,rfl,⟨fun h10=> ?_,fun h10=> ?_⟩⟩
  · refine rdQ_mk 4 _ (rdQ_mk 4 _ (rdQ_mk 4 _ ?_))
    unfold ref16_Out_Q
    try simp (disch:=first | assumption | exact R4_zero | exact R4_one) only [rdx] at *
    have hs:sOut A S n=(0,2):=by
      unfold sOut
      (repeat' split)<;>first | rfl | (exfalso;omega)
    exact ⟨(0,2),⟨R4_zero,by first | exact hs.symm | (rw [num_vI r_A,num_vI r_S,num_vI r_n];exact hs.symm)⟩,by rw [vI_zero],trivial⟩
  have hA1:A+1<115792089237316195423570985008687907853269984665640564039457584007913129639936:=by (try simp (disch:=first | assumption | exact R4_zero | exact R4_one) only [rdx] at *);omega
  have hS1:S+1<115792089237316195423570985008687907853269984665640564039457584007913129639936:=by (try simp (disch:=first | assumption | exact R4_zero | exact R4_one) only [rdx] at *);omega
  have R1:R4 (A+1):=⟨by omega,hA1⟩
  refine rdQ_mk 4 _ (ref2_Row_m n (fun x12 rh11_ h11=> ?_))
  have hT:=h11
  have okhT:RowOK x12:=by assumption
  have ehT:=vlen_dg x12
  have chT:=canon_pos okhT.dig hT.2.1
  have lhT:=hT.2.2
  refine rdQ_mk 4 _ (ref16_one_m A (fun x13 rh12_ h12=> ?_))
  have hU:=h12
  have okhU:RowOK x13:=by assumption
  have ehU:=vlen_dg x13
  have chU:=canon_pos okhU.dig hU.2.1
  have lhU:=hU.2.2
  have shU:=canon16 okhU.dig hU.2.1
  refine ref1_Mul_m x12 x13 (fun x14 rh13_ h13=> ?_)
  have hM:=h13
  have lM:(dg x14).length<=64:=len40 (RowOK.dig (by assumption)) hM.2 (by rw [hM.1,hT.1,hU.1]) (wide_num (prod_R r_n R1))
  refine rdQ_mk 4 _ (ref16_one_m S (fun x15 rh14_ h14=> ?_))
  have hV:=h14
  have okhV:RowOK x15:=by assumption
  have ehV:=vlen_dg x15
  have chV:=canon_pos okhV.dig hV.2.1
  have lhV:=hV.2.2
  have shV:=canon16 okhV.dig hV.2.1
  refine ref1_Div_m x14 x15 (fun x16 rh15_1 rh15_2 h15=> ?_) (hb:=by rw [hV.1];omega)
  have hD:=h15
  rw [hM.1,hT.1,hU.1,hV.1] at hD
  have okq:RowOK x16.1:=by assumption
  have l40:(dg x16.1).length<=64:=len40 okq.dig hD.2.2.1 hD.1 (wide_num (quo_R8 (prod_R r_n R1) (by omega)))
  refine ref2_Int_m x16.1 (fun x17 rh16_1 h16=> ?_)
  have hI:=h16
  rw [hD.1] at hI
  intro b18
  refine rdQ_mk 4 _ ⟨fun h17=> ?_,fun h17=> ?_⟩
  · refine rdQ_mk 4 _ (rdQ_mk 4 _ (rdQ_mk 4 _ ?_))
    unfold ref16_Out_Q
    have cI:=(rInt_cases hI).2 (not_t h17)
    try simp (disch:=first | assumption | exact R4_zero | exact R4_one) only [rdx] at *
    have hs:sOut A S n=(0,2):=by
      unfold sOut
      (repeat' split)<;>first | rfl | (exfalso;omega)
    exact ⟨(0,2),⟨R4_zero,by first | exact hs.symm | (rw [num_vI r_A,num_vI r_S,num_vI r_n];exact hs.symm)⟩,by rw [vI_zero],trivial⟩
  refine rdQ_mk 4 _ (ref2_Row_m A (fun x19 rh18_ h18=> ?_))
  have hH:=h18
  have okhH:RowOK x19:=by assumption
  have ehH:=vlen_dg x19
  have chH:=canon_pos okhH.dig hH.2.1
  have lhH:=hH.2.2
  refine ref1_Cmp_m x16.1 x19 (fun x20 h19=> ?_)
  have hY:=h19
  rw [hD.1,hH.1] at hY
  have chY:=hCmp_split hY
  refine ⟨fun h20=> ?_,fun h20=> ?_⟩
  · refine rdQ_mk 4 _ (rdQ_mk 4 _ (rdQ_mk 4 _ ?_))
    unfold ref16_Out_Q
    have cI:=(rInt_cases hI).1 (not_f h17)
    try simp (disch:=first | assumption | exact R4_zero | exact R4_one) only [rdx] at *
    have hs:sOut A S n=(0,8):=by
      unfold sOut
      (repeat' split)<;>first | rfl | (exfalso;omega)
    exact ⟨(0,8),⟨R4_zero,by first | exact hs.symm | (rw [num_vI r_A,num_vI r_S,num_vI r_n];exact hs.symm)⟩,by rw [vI_zero],trivial⟩
  refine rdQ_mk 4 _ (rdQ_mk 4 _ (rdQ_mk 4 _ ?_))
  unfold ref16_Out_Q
  have cI:=(rInt_cases hI).1 (not_f h17)
  try simp (disch:=first | assumption | exact R4_zero | exact R4_one) only [rdx] at *
  have ha:x17.1=n*(A+1)/(S+1):=by omega
  have hs:sOut A S n=(n*(A+1)/(S+1),0):=by
    unfold sOut
    (repeat' split)<;>first | rfl | (exfalso;omega)
  exact ⟨(n*(A+1)/(S+1),0),⟨ha▸(by assumption),by first | exact hs.symm | (rw [num_vI r_A,num_vI r_S,num_vI r_n];exact hs.symm)⟩,by rw [ha],trivial⟩
abbrev ref16_Out_K (A S n:Int) (KK:(Int×Int)->Prop):Prop:=ref16_Out_A A S n (fun za zh zv zu zp=>callQr Try.prog 144 za zh (Int×Int) zv zp KK)
theorem ref16_Out_m (A S n:Int) {KK:(Int×Int)->Prop} (kont: ∀zx:Int×Int,R4 zx.1->(zx=sOut A S n)->KK zx) (r_A:R4 A:=by assumption) (r_S:R4 S:=by assumption) (r_n:R4 n:=by assumption):ref16_Out_K A S n KK:=callQr_mk (ref16_Out A S n r_A r_S r_n) (⟨_,sOut_R (by first | exact R4_num _ | exact r_A) (by first | exact R4_num _ | exact r_S) (by first | exact R4_num _ | exact r_n),rfl⟩) fun zx hz=>by
  obtain ⟨rhz_1,hz⟩:=hz
  try simp only [num_vI (n:=A) r_A,num_vI (n:=S) r_S,num_vI (n:=n) r_n] at hz
  exact kont zx rhz_1 hz
theorem Try.kls141:KL Try.prog 141 (fun v=> ∃n0 n1:Int,v= .agg #[.int .u8 n0, .int .u8 n1]):=kl_struct2 (f0:=(Try.prog.fieldsOf 141).getD 0 default) (f1:=(Try.prog.fieldsOf 141).getD 1 default) (by kernel_rfl) (by kernel_rfl) (by kernel_rfl) (by kernel_rfl) (by kernel_rfl) (by kernel_rfl) (by kernel_rfl) (by kernel_rfl) (fun w=>by kernel_rfl) (fun w=>by kernel_rfl) (fun b a c w=>by kernel_rfl)
def Try.jk:JK:=⟨32,1⟩
theorem Try.sl30:SlT Try.prog 30 1 .nilFunc:=SlT.of (by kernel_rfl) (by kernel_rfl) (by kernel_rfl) (by kernel_rfl) rfl
noncomputable def Try.ent249 (b:Nat) (m:KV) (key:Value):Ent:=⟨208,b,key,mget m key,(stV s0),4,51,145,5⟩
def Try.mk249:MK:=⟨249,Value.func (.func 69) #[] #[],fun v=> ∃n:Int,v= .int .u8 n,fun x=> ∃v,okS v/\x=stV v⟩
theorem Try.kl249:KindL Try.prog Try.mk249 247 5 51 ((stV s0)) (V:=ST) stV okS:=⟨⟨by kernel_rfl,kl_int (by kernel_rfl),fun w=>by kernel_rfl⟩,fun _=>Iff.rfl,⟨s0,okS0,rfl⟩⟩
abbrev stage_New_raw249_Q (bj:Nat) (zv:Value) (zs0:Slot) (zs1:Slot):Prop:= ∃zx:Nat×Nat,(True)/\zv=pp zx.1 0/\zs0= .blk zx.1 (.cells #[.map (some zx.2),pp bj 0, .func (.func 69) #[] #[]] 249 (0,0))/\zs1= .blk zx.2 (.map #[] 0)/\True
set_option maxRecDepth 100000 in
theorem stage_New_raw249_vc (bj:Nat):codeW Try.prog 10 none 2000 none (bodyOf Try.f68) (.reg [S0] (.reg [.sem [.nw 21],S0,S0,S0, .sem [.nw 20],S0] (.done)))
    (init #[pp bj 0, .func (.func 69) #[] #[]] []) (finW Try.prog Try.f68 [] [20,21] (X:=Nat×Nat) (fun zx=>pp zx.1 0) (fun zx=> [.blk zx.1 (.cells #[.map (some zx.2),pp bj 0, .func (.func 69) #[] #[]] 249 (0,0)), .blk zx.2 (.map #[] 0)]) (fun _=>True))=
    (∀b1:Nat,∀b2:Nat,stage_New_raw249_Q bj (pp b2 0) (Slot.blk b2 (.cells #[.map (some b1),pp bj 0, .func (.func 69) #[] #[]] 249 (0,0))) (Slot.blk b1 (.map #[] 0))):=by kernel_rfl
set_option maxRecDepth 100000 in
theorem stage_New_raw249 (bj:Nat) :CallT Try.prog 68 #[pp bj 0, .func (.func 69) #[] #[]] [] (Nat×Nat) (fun zx=>pp zx.1 0) (fun zx=> [.blk zx.1 (.cells #[.map (some zx.2),pp bj 0, .func (.func 69) #[] #[]] 249 (0,0)), .blk zx.2 (.map #[] 0)]) (fun _=>True):=by
  refine call_of (c:=bodyOf Try.f68) (n:=10) (fn:=Try.f68) Try.mixed Try.func68 (by kernel_rfl) (by kernel_rfl) (by kernel_rfl) 2000 _ [] [20,21] rfl rfl (Eq.mpr (stage_New_raw249_vc bj) ?_)
  intro b1
  intro b2
  exact ⟨(b2,b1),trivial,rfl,rfl,rfl,trivial⟩
noncomputable def stage_New249_C:List Value->List Slot->Ctr:=fun vs hs=>⟨Nat,fun zx=>pp zx 0,fun zx=> [(mS Try.mk249 zx (vblk (varg vs 1)) ([]))],fun zx=>True⟩
theorem stage_New249 (bj:Nat) :CallT Try.prog 68 #[.pointer (some ⟨bj,0,none⟩), .func (.func 69) #[] #[]] [] Nat (fun zx=> .pointer (some ⟨zx,0,none⟩)) (fun zx=> [(mS Try.mk249 zx bj ([]))]) (fun zx=>(True)):=(stage_New_raw249 bj).exists fun x _=>⟨x.1,trivial,rfl,new_fold (K:=Try.mk249) x.1 x.2 bj⟩
abbrev stage_Get_raw249_Q (b bj r:Nat) (m:KV) (k:Int) (zv:Value) (zs0:Slot) (zs1:Slot):Prop:= ∃zx:ST×Bool,(zx.1=unST ((mget m (Value.int .u8 k)).getD ((stV s0)))/\zx.2=(mget m (Value.int .u8 k)).isSome)/\zv= .tuple #[stV (zx.1.1,zx.1.2.1,zx.1.2.2.1,zx.1.2.2.2), .bool zx.2]/\zs0= .blk b (.cells #[.map (some r),pp bj 0, .func (.func 69) #[] #[]] 249 (0,0))/\zs1=(mo r m)/\True
set_option maxRecDepth 100000 in
theorem stage_Get_raw249_vc (b bj r:Nat) (m:KV) (k:Int):codeW Try.prog 19 none 2000 none (bodyOf Try.f83) (.reg [.sem [.nw 2],S0] (.reg [S0,S0,S0, .sem [.rd 0],S0, .specr [1] (F_look (V:=ST) stV okS ((stV s0))),S0,S0,S0, .sem [.nw 3], .sem (wrs 16 3),S0] (.reg [.sem (rds 16 3),S0, .sem (wrs 16 2),S0] (.done))))
    (init #[pp b 0, .int .u8 k] [.blk b (.cells #[.map (some r),pp bj 0, .func (.func 69) #[] #[]] 249 (0,0)),(mo r m)]) (finW Try.prog Try.f83 [.rd 2, .rd 2, .rd 2, .rd 2, .rd 2, .rd 2, .rd 2, .rd 2, .rd 2, .rd 2, .rd 2, .rd 2, .rd 2, .rd 2, .rd 2, .rd 2] [0,1] (X:=ST×Bool) (fun zx=> .tuple #[stV (zx.1.1,zx.1.2.1,zx.1.2.2.1,zx.1.2.2.2), .bool zx.2]) (fun zx=> [.blk b (.cells #[.map (some r),pp bj 0, .func (.func 69) #[] #[]] 249 (0,0)),(mo r m)]) (fun zx=>(zx.1=unST ((mget m (Value.int .u8 k)).getD ((stV s0)))/\zx.2=(mget m (Value.int .u8 k)).isSome)))=
    (∀b1:Nat,rdQ 1 b (opQr Try.prog (vS (Instr.lookup 247 (.map (some r)) (.int .u8 k) true)) [(mo r m)] (ST×Bool) (fun zx=> .tuple #[stV (zx.1.1,zx.1.2.1,zx.1.2.2.1,zx.1.2.2.2), .bool zx.2]) (fun zx=>okS zx.1/\zx.2=(mget m (Value.int .u8 k)).isSome/\stV zx.1=(mget m (Value.int .u8 k)).getD ((stV s0))) (fun x2=> ∀b3:Nat,rdQ 16 b3 (rdQ 16 b3 (rdQ 16 b1 (rdQ 16 b1 (stage_Get_raw249_Q b bj r m k (Value.tuple #[stV (x2.1.1,x2.1.2.1,x2.1.2.2.1,x2.1.2.2.2), .bool x2.2]) (Slot.blk b (.cells #[.map (some r),pp bj 0, .func (.func 69) #[] #[]] 249 (0,0))) (mo r m)))))))):=by kernel_rfl
set_option maxRecDepth 100000 in
theorem stage_Get_raw249 (b bj r:Nat) (m:KV) (k:Int) (hk:KOK Try.mk249 m):CallT Try.prog 83 #[pp b 0, .int .u8 k] [.blk b (.cells #[.map (some r),pp bj 0, .func (.func 69) #[] #[]] 249 (0,0)),(mo r m)] (ST×Bool) (fun zx=> .tuple #[stV (zx.1.1,zx.1.2.1,zx.1.2.2.1,zx.1.2.2.2), .bool zx.2]) (fun zx=> [.blk b (.cells #[.map (some r),pp bj 0, .func (.func 69) #[] #[]] 249 (0,0)),(mo r m)]) (fun zx=>(zx.1=unST ((mget m (Value.int .u8 k)).getD ((stV s0)))/\zx.2=(mget m (Value.int .u8 k)).isSome)):=by
  refine call_of (c:=bodyOf Try.f83) (n:=19) (fn:=Try.f83) Try.mixed Try.func83 (by kernel_rfl) (by kernel_rfl) (by kernel_rfl) 2000 _ [.rd 2, .rd 2, .rd 2, .rd 2, .rd 2, .rd 2, .rd 2, .rd 2, .rd 2, .rd 2, .rd 2, .rd 2, .rd 2, .rd 2, .rd 2, .rd 2] [0,1] rfl rfl (Eq.mpr (stage_Get_raw249_vc b bj r m k) ?_)
  intro b1
  refine rdQ_mk 1 _ (opQr_mk (xlook Try.kl249 hk ⟨_,rfl⟩) (wlook Try.kl249 hk _) fun x2 h1=> ?_)
  have hx:=h1
  intro b3
  exact rdQ_mk 16 _ (rdQ_mk 16 _ (rdQ_mk 16 _ (rdQ_mk 16 _ ⟨x2,⟨by rw [←hx.2.2];exact (un_stV hx.1).symm,hx.2.1⟩,rfl,rfl,rfl,trivial⟩)))
noncomputable def stage_Get249_C:List Value->List Slot->Ctr:=fun vs hs=>⟨ST×Bool,fun zx=> .tuple #[stV (zx.1.1,zx.1.2.1,zx.1.2.2.1,zx.1.2.2.2), .bool zx.2],fun _=>hs,fun zx=>zx.1=unST ((mget (skv (sarg hs 0)) (varg vs 2)).getD ((stV s0)))/\zx.2=(mget (skv (sarg hs 0)) (varg vs 2)).isSome⟩
theorem stage_Get249 (b bj:Nat) (m:KV) (k:Int) :CallT Try.prog 83 #[.pointer (some ⟨b,0,none⟩), .int .u8 k] [(mS Try.mk249 b bj m)] (ST×Bool) (fun zx=> .tuple #[stV (zx.1.1,zx.1.2.1,zx.1.2.2.1,zx.1.2.2.2), .bool zx.2]) (fun zx=> [(mS Try.mk249 b bj m)]) (fun zx=>(zx.1=unST ((mget m (Value.int .u8 k)).getD ((stV s0)))/\zx.2=(mget m (Value.int .u8 k)).isSome)):=by
  refine (mS_call (m' :=fun _=>m) (us:=fun _=> []) (enterOK (c:=bodyOf Try.f83) Try.func83 (by kernel_rfl) (by kernel_rfl)) (fun r hk=> ?_) (fun _ _ h=>h))
  exact stage_Get_raw249 b bj r m k hk
abbrev stage_note_raw249_Q (b bj r:Nat) (row:Rw) (m:KV) (k:Int) (zv:Value) (zs0:Slot) (zs1:Slot) (zs2:Slot) (zs3:Slot) (zs4:Slot) (zs5:Slot) (zs6:Slot) (zs7:Slot):Prop:= ∃zx:Row×N4×ST×Bool,(vals zx.1=vals row++ [(Try.ent249 b m (Value.int .u8 k)).fn zx.2.1]/\zx.2.2.2=(mget m (Value.int .u8 k)).isSome/\stV zx.2.2.1=(mget m (Value.int .u8 k)).getD ((stV s0)))/\zv= .tuple #[]/\zs0= .blk b (.cells #[.map (some r),pp bj 0, .func (.func 69) #[] #[]] 249 (0,0))/\zs1=(mo r m)/\zs2=bk bj #[sv zx.1] 32/\zs3=(ss 1 zx.1)/\zs4=bk zx.2.1.1 #[.bool zx.2.2.2] 4/\zs5=bk zx.2.1.2.1 #[uu (lim zx.2.2.1.1 0),uu (lim zx.2.2.1.1 1),uu (lim zx.2.2.1.1 2),uu (lim zx.2.2.1.1 3),uu (lim zx.2.2.1.2.1 0),uu (lim zx.2.2.1.2.1 1),uu (lim zx.2.2.1.2.1 2),uu (lim zx.2.2.1.2.1 3),uu (lim zx.2.2.1.2.2.1 0),uu (lim zx.2.2.1.2.2.1 1),uu (lim zx.2.2.1.2.2.1 2),uu (lim zx.2.2.1.2.2.1 3),uu (lim zx.2.2.1.2.2.2 0),uu (lim zx.2.2.1.2.2.2 1),uu (lim zx.2.2.1.2.2.2 2),uu (lim zx.2.2.1.2.2.2 3)] 51/\zs6=bk zx.2.1.2.2.1 #[pp b 0] 145/\zs7=bk zx.2.1.2.2.2 #[.int .u8 k] 5/\True
set_option maxRecDepth 100000 in
theorem stage_note_raw249_vc (b bj r:Nat) (row:Rw) (m:KV) (k:Int):codeW Try.prog 31 none 2000 none (bodyOf Try.f153) (.reg [.sem [.nw 32], .sem [.nw 33]] (.reg [.sem [.rd 32],S0,S0, .sem [.rd 0], .sem [.rd 33], .specr [1] (F_look (V:=ST) stV okS ((stV s0))),S0,S0,S0, .sem [.nw 31], .sem [.nw 30], .sem (wrs 16 31), .sem [.wr 30]] (.reg [.sem [.rd 32],S0,S0, .sem [.rd 0], .sem [.rd 32],S0,S0, .sem [.rd 0],S0,S0, .sem [.rd 2],S0, .sem [.nw 4], .specw [3,4] [3,4] (F_app 1),S0,S0, .specw [2] [2] F_put] (.done))))
    (init #[pp b 0, .int .u8 k] [.blk b (.cells #[.map (some r),pp bj 0, .func (.func 69) #[] #[]] 249 (0,0)),(mo r m),bk bj #[sv row] 32,(ss 1 row)]) (finW Try.prog Try.f153 [] [0,1,2,3,30,31,32,33] (X:=Row×N4×ST×Bool) (fun zx=> .tuple #[]) (fun zx=> [.blk b (.cells #[.map (some r),pp bj 0, .func (.func 69) #[] #[]] 249 (0,0)),(mo r m),bk bj #[sv zx.1] 32,(ss 1 zx.1),bk zx.2.1.1 #[.bool zx.2.2.2] 4,bk zx.2.1.2.1 #[uu (lim zx.2.2.1.1 0),uu (lim zx.2.2.1.1 1),uu (lim zx.2.2.1.1 2),uu (lim zx.2.2.1.1 3),uu (lim zx.2.2.1.2.1 0),uu (lim zx.2.2.1.2.1 1),uu (lim zx.2.2.1.2.1 2),uu (lim zx.2.2.1.2.1 3),uu (lim zx.2.2.1.2.2.1 0),uu (lim zx.2.2.1.2.2.1 1),uu (lim zx.2.2.1.2.2.1 2),uu (lim zx.2.2.1.2.2.1 3),uu (lim zx.2.2.1.2.2.2 0),uu (lim zx.2.2.1.2.2.2 1),uu (lim zx.2.2.1.2.2.2 2),uu (lim zx.2.2.1.2.2.2 3)] 51,bk zx.2.1.2.2.1 #[pp b 0] 145,bk zx.2.1.2.2.2 #[.int .u8 k] 5]) (fun zx=>(vals zx.1=vals row++ [(Try.ent249 b m (Value.int .u8 k)).fn zx.2.1]/\zx.2.2.2=(mget m (Value.int .u8 k)).isSome/\stV zx.2.2.1=(mget m (Value.int .u8 k)).getD ((stV s0)))))=
    (∀b1:Nat,∀b2:Nat,rdQ 1 b1 (rdQ 1 b (rdQ 1 b2 (opQr Try.prog (vS (Instr.lookup 247 (.map (some r)) (.int .u8 k) true)) [(mo r m)] (ST×Bool) (fun zx=> .tuple #[stV (zx.1.1,zx.1.2.1,zx.1.2.2.1,zx.1.2.2.2), .bool zx.2]) (fun zx=>okS zx.1/\zx.2=(mget m (Value.int .u8 k)).isSome/\stV zx.1=(mget m (Value.int .u8 k)).getD ((stV s0))) (fun x3=> ∀b4:Nat,∀b5:Nat,rdQ 16 b4 (rdQ 1 b5 (rdQ 1 b1 (rdQ 1 b (rdQ 1 b1 (rdQ 1 b (rdQ 1 bj (∀b6:Nat,opQ Try.prog (vS (Builtin.append_ #[30,30] 30 #[sv row, .slice (some ⟨b6,0,none⟩) 1 1])) [(ss 1 row), .blk b6 (.cells #[.func (.func 208) #[] #[pp b5 0,pp b4 0,pp b1 0,pp b2 0]] 1 (0,0))] Row (fun zx=>sv zx) (fun zx=> [(ss 1 zx), .blk b6 (.cells #[.func (.func 208) #[] #[pp b5 0,pp b4 0,pp b1 0,pp b2 0]] 1 (0,0))]) (fun zx=>vals zx=rvals (sv row) (ss 1 row)++ [Value.func (.func 208) #[] #[pp b5 0,pp b4 0,pp b1 0,pp b2 0]]) (fun x7=>opQ Try.prog (skS (Instr.storeAt 30 (pp bj 0) (sv x7))) [bk bj #[sv row] 32] Unit (fun _=> .tuple #[]) (fun _=> [bk bj #[sv x7] 32]) (fun _=>True) (fun _=>stage_note_raw249_Q b bj r row m k (Value.tuple #[]) (Slot.blk b (.cells #[.map (some r),pp bj 0, .func (.func 69) #[] #[]] 249 (0,0))) (mo r m) (bk bj #[sv x7] 32) (ss 1 x7) (bk b5 #[.bool x3.2] 4) (bk b4 #[uu (lim x3.1.1 0),uu (lim x3.1.1 1),uu (lim x3.1.1 2),uu (lim x3.1.1 3),uu (lim x3.1.2.1 0),uu (lim x3.1.2.1 1),uu (lim x3.1.2.1 2),uu (lim x3.1.2.1 3),uu (lim x3.1.2.2.1 0),uu (lim x3.1.2.2.1 1),uu (lim x3.1.2.2.1 2),uu (lim x3.1.2.2.1 3),uu (lim x3.1.2.2.2 0),uu (lim x3.1.2.2.2 1),uu (lim x3.1.2.2.2 2),uu (lim x3.1.2.2.2 3)] 51) (bk b1 #[pp b 0] 145) (bk b2 #[.int .u8 k] 5))))))))))))))):=by kernel_rfl
set_option maxRecDepth 100000 in
theorem stage_note_raw249 (b bj r:Nat) (row:Rw) (m:KV) (k:Int) (hk:KOK Try.mk249 m) (hl:(vals row).length<=1073741824):CallT Try.prog 153 #[pp b 0, .int .u8 k] [.blk b (.cells #[.map (some r),pp bj 0, .func (.func 69) #[] #[]] 249 (0,0)),(mo r m),bk bj #[sv row] 32,(ss 1 row)] (Row×N4×ST×Bool) (fun zx=> .tuple #[]) (fun zx=> [.blk b (.cells #[.map (some r),pp bj 0, .func (.func 69) #[] #[]] 249 (0,0)),(mo r m),bk bj #[sv zx.1] 32,(ss 1 zx.1),bk zx.2.1.1 #[.bool zx.2.2.2] 4,bk zx.2.1.2.1 #[uu (lim zx.2.2.1.1 0),uu (lim zx.2.2.1.1 1),uu (lim zx.2.2.1.1 2),uu (lim zx.2.2.1.1 3),uu (lim zx.2.2.1.2.1 0),uu (lim zx.2.2.1.2.1 1),uu (lim zx.2.2.1.2.1 2),uu (lim zx.2.2.1.2.1 3),uu (lim zx.2.2.1.2.2.1 0),uu (lim zx.2.2.1.2.2.1 1),uu (lim zx.2.2.1.2.2.1 2),uu (lim zx.2.2.1.2.2.1 3),uu (lim zx.2.2.1.2.2.2 0),uu (lim zx.2.2.1.2.2.2 1),uu (lim zx.2.2.1.2.2.2 2),uu (lim zx.2.2.1.2.2.2 3)] 51,bk zx.2.1.2.2.1 #[pp b 0] 145,bk zx.2.1.2.2.2 #[.int .u8 k] 5]) (fun zx=>(vals zx.1=vals row++ [(Try.ent249 b m (Value.int .u8 k)).fn zx.2.1]/\zx.2.2.2=(mget m (Value.int .u8 k)).isSome/\stV zx.2.2.1=(mget m (Value.int .u8 k)).getD ((stV s0)))):=by
  refine call_of (c:=bodyOf Try.f153) (n:=31) (fn:=Try.f153) Try.mixed Try.func153 (by kernel_rfl) (by kernel_rfl) (by kernel_rfl) 2000 _ [] [0,1,2,3,30,31,32,33] rfl rfl (Eq.mpr (stage_note_raw249_vc b bj r row m k) ?_)
  intro b1
  intro b2
  refine rdQ_mk 1 _ (rdQ_mk 1 _ (rdQ_mk 1 _ (opQr_mk (xlook Try.kl249 hk ⟨_,rfl⟩) (wlook Try.kl249 hk _) fun x3 h1=> ?_)))
  have hx:=h1
  intro b4
  intro b5
  refine rdQ_mk 16 _ (rdQ_mk 1 _ (rdQ_mk 1 _ (rdQ_mk 1 _ (rdQ_mk 1 _ (rdQ_mk 1 _ (rdQ_mk 1 _ (fun b6=>opQ_mk (xappendR Try.sl30 30 row (by rw [dg_len];omega) b6 1 (Value.func (.func 208) #[] #[pp b5 0,pp b4 0,pp b1 0,pp b2 0]) rfl) (wit_app _) fun x7 h2=> ?_)))))))
  rw [rvals_eq] at h2
  have ha:=h2
  exact opQ_mk (xputv (b:=bj) (cs:= #[sv row]) (ty:=32) (te:=30) (fun w=>by kernel_rfl) 0 (sv x7) (cells_sv _) (one_sv _) (by show 0<1;decide)) (⟨(),trivial⟩) fun _ _=>⟨(x7,(b5,b4,b1,b2),x3),⟨ha,hx.2.1,hx.2.2⟩,rfl,rfl,rfl,rfl,rfl,rfl,rfl,rfl,rfl,trivial⟩
noncomputable def stage_note249_C:List Value->List Slot->Ctr:=fun vs hs=>⟨List Ent,fun zx=> .tuple #[],fun zx=> [.blk (vblk (varg vs 1)) (.cells #[.map (some (snum (sarg hs 1) 0)), .pointer (some ⟨(vblk (scell (sarg hs 0) 1)),0,none⟩), .func (.func 69) #[] #[]] 249 (0,0)),(mo (snum (sarg hs 1) 0) (skv (sarg hs 1))),(jS Try.jk (vblk (scell (sarg hs 0) 1)) zx)],fun zx=>zx=(sents (sarg hs 2))++ [(Try.ent249 (vblk (varg vs 1)) (skv (sarg hs 1)) (varg vs 2))]⟩
theorem stage_note249 (b bj r:Nat) (m:KV) (L:List Ent) (k:Int) (hk:KOK Try.mk249 m) (hl:L.length<=1073741824):CallT Try.prog 153 #[.pointer (some ⟨b,0,none⟩), .int .u8 k] [.blk b (.cells #[.map (some r), .pointer (some ⟨bj,0,none⟩), .func (.func 69) #[] #[]] 249 (0,0)),(mo r m),(jS Try.jk bj L)] (List Ent) (fun zx=> .tuple #[]) (fun zx=> [.blk b (.cells #[.map (some r), .pointer (some ⟨bj,0,none⟩), .func (.func 69) #[] #[]] 249 (0,0)),(mo r m),(jS Try.jk bj zx)]) (fun zx=>(zx=L++ [(Try.ent249 b m (Value.int .u8 k))])):=by
  have c:=jS_note (K:=Try.jk) (bj:=bj) (L:=L) (vv:=stV) (e:=(Try.ent249 b m (Value.int .u8 k))) (mk:=fun _=>default_ent) (enterOK (c:=bodyOf Try.f153) Try.func153 (by kernel_rfl) (by kernel_rfl)) rfl (fun row hr=>stage_note_raw249 b bj r row m k hk (by omega))
  exact c.exists fun _ _=>⟨_,rfl,rfl,Imp.refl _⟩
abbrev stage_Set_raw249_Q (b bj r:Nat) (m:KV) (L:List Ent) (k v0 v1 v2 v3:Int) (zv:Value) (zs0:Slot) (zs1:Slot) (zs2:Slot):Prop:= ∃zx:KV×List Ent,(zx.1=mset m (Value.int .u8 k) (stV (v0,v1,v2,v3))/\zx.2=L++ [(Try.ent249 b m (Value.int .u8 k))])/\zv= .tuple #[]/\zs0= .blk b (.cells #[.map (some r),pp bj 0, .func (.func 69) #[] #[]] 249 (0,0))/\zs1=(mo r zx.1)/\zs2=(jS Try.jk bj zx.2)/\True
set_option maxRecDepth 100000 in
theorem stage_Set_raw249_vc (b bj r:Nat) (m:KV) (L:List Ent) (k v0 v1 v2 v3:Int):codeW Try.prog 15 none 2000 none (bodyOf Try.f81) (.reg [.sem [.nw 3]] (.reg [S0,S0, .callw [0,1,2] [0,1,2] stage_note249_C] (.reg [S0,S0,S0, .sem [.rd 0],S0, .sem (rds 16 3), .specw [1] [1] F_upd] (.done))))
    (init #[pp b 0, .int .u8 k,stV (v0,v1,v2,v3)] [.blk b (.cells #[.map (some r),pp bj 0, .func (.func 69) #[] #[]] 249 (0,0)),(mo r m),(jS Try.jk bj L)]) (finW Try.prog Try.f81 [] [0,1,2] (X:=KV×List Ent) (fun zx=> .tuple #[]) (fun zx=> [.blk b (.cells #[.map (some r),pp bj 0, .func (.func 69) #[] #[]] 249 (0,0)),(mo r zx.1),(jS Try.jk bj zx.2)]) (fun zx=>(zx.1=mset m (Value.int .u8 k) (stV (v0,v1,v2,v3))/\zx.2=L++ [(Try.ent249 b m (Value.int .u8 k))])))=
    (∀b1:Nat,callQ Try.prog 153 #[pp b 0, .int .u8 k] [.blk b (.cells #[.map (some r),pp bj 0, .func (.func 69) #[] #[]] 249 (0,0)),(mo r m),(jS Try.jk bj L)] (List Ent) (fun zx=> .tuple #[]) (fun zx=> [.blk b (.cells #[.map (some r),pp bj 0, .func (.func 69) #[] #[]] 249 (0,0)),(mo r m),(jS Try.jk bj zx)]) (fun zx=>zx=L++ [(Try.ent249 b m (Value.int .u8 k))]) (fun x2=>rdQ 1 b (rdQ 16 b1 (opQ Try.prog (skS (Instr.mapUpdate 247 (.map (some r)) (.int .u8 k) (stV (v0,v1,v2,v3)))) [(mo r m)] KV (fun zx=> .tuple #[]) (fun zx=> [(mo r zx)]) (fun zx=>zx=mset m (Value.int .u8 k) (stV (v0,v1,v2,v3))) (fun x3=>stage_Set_raw249_Q b bj r m L k v0 v1 v2 v3 (Value.tuple #[]) (Slot.blk b (.cells #[.map (some r),pp bj 0, .func (.func 69) #[] #[]] 249 (0,0))) (mo r x3) (jS Try.jk bj x2)))))):=by kernel_rfl
set_option maxRecDepth 100000 in
theorem stage_Set_raw249 (b bj r:Nat) (m:KV) (L:List Ent) (k v0 v1 v2 v3:Int) (r_v0:R4 v0) (r_v1:R4 v1) (r_v2:R4 v2) (r_v3:R4 v3) (hk:KOK Try.mk249 m) (hl:L.length<=1073741824):CallT Try.prog 81 #[pp b 0, .int .u8 k,stV (v0,v1,v2,v3)] [.blk b (.cells #[.map (some r),pp bj 0, .func (.func 69) #[] #[]] 249 (0,0)),(mo r m),(jS Try.jk bj L)] (KV×List Ent) (fun zx=> .tuple #[]) (fun zx=> [.blk b (.cells #[.map (some r),pp bj 0, .func (.func 69) #[] #[]] 249 (0,0)),(mo r zx.1),(jS Try.jk bj zx.2)]) (fun zx=>(zx.1=mset m (Value.int .u8 k) (stV (v0,v1,v2,v3))/\zx.2=L++ [(Try.ent249 b m (Value.int .u8 k))])):=by
  refine call_of (c:=bodyOf Try.f81) (n:=15) (fn:=Try.f81) Try.mixed Try.func81 (by kernel_rfl) (by kernel_rfl) (by kernel_rfl) 2000 _ [] [0,1,2] rfl rfl (Eq.mpr (stage_Set_raw249_vc b bj r m L k v0 v1 v2 v3) ?_)
  intro b1
  refine callQ_mk (stage_note249 b bj r m L k (hk) (hl)) (⟨_,rfl⟩) fun x2 h1=> ?_
  have hn:=h1
  refine rdQ_mk 1 _ (rdQ_mk 16 _ (opQ_mk (xupd Try.kl249 hk ⟨_,rfl⟩ (stV (v0,v1,v2,v3))) (⟨_,rfl⟩) fun x3 h2=> ?_))
  have hs:=h2
  exact ⟨(_,_),⟨hs,hn⟩,rfl,rfl,rfl,rfl,trivial⟩
noncomputable def stage_Set249_C:List Value->List Slot->Ctr:=fun vs hs=>⟨KV×List Ent,fun zx=> .tuple #[],fun zx=> [(mS Try.mk249 (vblk (varg vs 1)) (snum (sarg hs 0) 1) zx.1),(jS Try.jk (snum (sarg hs 0) 1) zx.2)],fun zx=>zx.1=mset (skv (sarg hs 0)) (varg vs 2) (varg vs 3)/\zx.2=(sents (sarg hs 1))++ [(Try.ent249 (vblk (varg vs 1)) (skv (sarg hs 0)) (varg vs 2))]⟩
theorem stage_Set249 (b bj:Nat) (m:KV) (L:List Ent) (k v0 v1 v2 v3:Int) (r_v0:R4 v0) (r_v1:R4 v1) (r_v2:R4 v2) (r_v3:R4 v3)  (hl:L.length<=1073741824):CallT Try.prog 81 #[.pointer (some ⟨b,0,none⟩), .int .u8 k,stV (v0,v1,v2,v3)] [(mS Try.mk249 b bj m),(jS Try.jk bj L)] (KV×List Ent) (fun zx=> .tuple #[]) (fun zx=> [(mS Try.mk249 b bj zx.1),(jS Try.jk bj zx.2)]) (fun zx=>(zx.1=mset m (Value.int .u8 k) (stV (v0,v1,v2,v3))/\zx.2=L++ [(Try.ent249 b m (Value.int .u8 k))])):=by
  refine mS_call (m' :=fun x:KV×List Ent=>x.1) (us:=fun x=> [(jS Try.jk bj x.2)]) (enterOK (c:=bodyOf Try.f81) Try.func81 (by kernel_rfl) (by kernel_rfl)) (fun r hk=> ?_) (fun x hx h=> ?_)
  · exact (stage_Set_raw249 b bj r m L k v0 v1 v2 v3 r_v0 r_v1 r_v2 r_v3 hk hl)
  · exact hx.1▸h.set (⟨_,rfl⟩) (⟨(v0,v1,v2,v3),⟨r_v0,r_v1,r_v2,r_v3⟩,rfl⟩)
noncomputable def Try.ent252 (b:Nat) (m:KV) (key:Value):Ent:=⟨209,b,key,mget m key,vI 0,4,25,148,141⟩
def Try.mk252:MK:=⟨252,Value.func (.func 65) #[] #[],fun v=> ∃n0 n1:Int,v= .agg #[.int .u8 n0, .int .u8 n1],fun x=> ∃v,R4 v/\x=vI v⟩
theorem Try.kl252:KindL Try.prog Try.mk252 250 141 25 (vI 0) (V:=Int) vI R4:=⟨⟨by kernel_rfl,Try.kls141,fun w=>by kernel_rfl⟩,fun _=>Iff.rfl,⟨0,R4_zero,rfl⟩⟩
abbrev stage_New_raw252_Q (bj:Nat) (zv:Value) (zs0:Slot) (zs1:Slot):Prop:= ∃zx:Nat×Nat,(True)/\zv=pp zx.1 0/\zs0= .blk zx.1 (.cells #[.map (some zx.2),pp bj 0, .func (.func 65) #[] #[]] 252 (0,0))/\zs1= .blk zx.2 (.map #[] 0)/\True
set_option maxRecDepth 100000 in
theorem stage_New_raw252_vc (bj:Nat):codeW Try.prog 10 none 2000 none (bodyOf Try.f70) (.reg [S0] (.reg [.sem [.nw 21],S0,S0,S0, .sem [.nw 20],S0] (.done)))
    (init #[pp bj 0, .func (.func 65) #[] #[]] []) (finW Try.prog Try.f70 [] [20,21] (X:=Nat×Nat) (fun zx=>pp zx.1 0) (fun zx=> [.blk zx.1 (.cells #[.map (some zx.2),pp bj 0, .func (.func 65) #[] #[]] 252 (0,0)), .blk zx.2 (.map #[] 0)]) (fun _=>True))=
    (∀b1:Nat,∀b2:Nat,stage_New_raw252_Q bj (pp b2 0) (Slot.blk b2 (.cells #[.map (some b1),pp bj 0, .func (.func 65) #[] #[]] 252 (0,0))) (Slot.blk b1 (.map #[] 0))):=by kernel_rfl
set_option maxRecDepth 100000 in
theorem stage_New_raw252 (bj:Nat) :CallT Try.prog 70 #[pp bj 0, .func (.func 65) #[] #[]] [] (Nat×Nat) (fun zx=>pp zx.1 0) (fun zx=> [.blk zx.1 (.cells #[.map (some zx.2),pp bj 0, .func (.func 65) #[] #[]] 252 (0,0)), .blk zx.2 (.map #[] 0)]) (fun _=>True):=by
  refine call_of (c:=bodyOf Try.f70) (n:=10) (fn:=Try.f70) Try.mixed Try.func70 (by kernel_rfl) (by kernel_rfl) (by kernel_rfl) 2000 _ [] [20,21] rfl rfl (Eq.mpr (stage_New_raw252_vc bj) ?_)
  intro b1
  intro b2
  exact ⟨(b2,b1),trivial,rfl,rfl,rfl,trivial⟩
noncomputable def stage_New252_C:List Value->List Slot->Ctr:=fun vs hs=>⟨Nat,fun zx=>pp zx 0,fun zx=> [(mS Try.mk252 zx (vblk (varg vs 1)) ([]))],fun zx=>True⟩
theorem stage_New252 (bj:Nat) :CallT Try.prog 70 #[.pointer (some ⟨bj,0,none⟩), .func (.func 65) #[] #[]] [] Nat (fun zx=> .pointer (some ⟨zx,0,none⟩)) (fun zx=> [(mS Try.mk252 zx bj ([]))]) (fun zx=>(True)):=(stage_New_raw252 bj).exists fun x _=>⟨x.1,trivial,rfl,new_fold (K:=Try.mk252) x.1 x.2 bj⟩
abbrev stage_Get_raw252_Q (b bj r:Nat) (m:KV) (k0 k1:Int) (zv:Value) (zs0:Slot) (zs1:Slot):Prop:= ∃zx:Int×Bool,(zx.1=num ((mget m (Value.agg #[.int .u8 k0, .int .u8 k1])).getD (vI 0))/\zx.2=(mget m (Value.agg #[.int .u8 k0, .int .u8 k1])).isSome)/\zv= .tuple #[vI zx.1, .bool zx.2]/\zs0= .blk b (.cells #[.map (some r),pp bj 0, .func (.func 65) #[] #[]] 252 (0,0))/\zs1=(mo r m)/\True
set_option maxRecDepth 100000 in
theorem stage_Get_raw252_vc (b bj r:Nat) (m:KV) (k0 k1:Int):codeW Try.prog 19 none 2000 none (bodyOf Try.f78) (.reg [.sem [.nw 2], .sem [.nw 3],S0] (.reg [S0,S0,S0, .sem [.rd 0], .sem [.rd 2, .rd 2], .specr [1] (F_look (V:=Int) vI R4 (vI 0)),S0,S0,S0, .sem [.nw 4], .sem (wrs 4 4),S0] (.reg [.sem (rds 4 4),S0, .sem (wrs 4 3),S0] (.done))))
    (init #[pp b 0, .agg #[.int .u8 k0, .int .u8 k1]] [.blk b (.cells #[.map (some r),pp bj 0, .func (.func 65) #[] #[]] 252 (0,0)),(mo r m)]) (finW Try.prog Try.f78 [.rd 3, .rd 3, .rd 3, .rd 3] [0,1] (X:=Int×Bool) (fun zx=> .tuple #[vI zx.1, .bool zx.2]) (fun zx=> [.blk b (.cells #[.map (some r),pp bj 0, .func (.func 65) #[] #[]] 252 (0,0)),(mo r m)]) (fun zx=>(zx.1=num ((mget m (Value.agg #[.int .u8 k0, .int .u8 k1])).getD (vI 0))/\zx.2=(mget m (Value.agg #[.int .u8 k0, .int .u8 k1])).isSome)))=
    (∀b1:Nat,∀b2:Nat,rdQ 1 b (rdQ 2 b1 (opQr Try.prog (vS (Instr.lookup 250 (.map (some r)) (.agg #[.int .u8 k0, .int .u8 k1]) true)) [(mo r m)] (Int×Bool) (fun zx=> .tuple #[vI zx.1, .bool zx.2]) (fun zx=>R4 zx.1/\zx.2=(mget m (Value.agg #[.int .u8 k0, .int .u8 k1])).isSome/\vI zx.1=(mget m (Value.agg #[.int .u8 k0, .int .u8 k1])).getD (vI 0)) (fun x3=> ∀b4:Nat,rdQ 4 b4 (rdQ 4 b4 (rdQ 4 b2 (rdQ 4 b2 (stage_Get_raw252_Q b bj r m k0 k1 (Value.tuple #[vI x3.1, .bool x3.2]) (Slot.blk b (.cells #[.map (some r),pp bj 0, .func (.func 65) #[] #[]] 252 (0,0))) (mo r m))))))))):=by kernel_rfl
set_option maxRecDepth 100000 in
theorem stage_Get_raw252 (b bj r:Nat) (m:KV) (k0 k1:Int) (hk:KOK Try.mk252 m):CallT Try.prog 78 #[pp b 0, .agg #[.int .u8 k0, .int .u8 k1]] [.blk b (.cells #[.map (some r),pp bj 0, .func (.func 65) #[] #[]] 252 (0,0)),(mo r m)] (Int×Bool) (fun zx=> .tuple #[vI zx.1, .bool zx.2]) (fun zx=> [.blk b (.cells #[.map (some r),pp bj 0, .func (.func 65) #[] #[]] 252 (0,0)),(mo r m)]) (fun zx=>(zx.1=num ((mget m (Value.agg #[.int .u8 k0, .int .u8 k1])).getD (vI 0))/\zx.2=(mget m (Value.agg #[.int .u8 k0, .int .u8 k1])).isSome)):=by
  refine call_of (c:=bodyOf Try.f78) (n:=19) (fn:=Try.f78) Try.mixed Try.func78 (by kernel_rfl) (by kernel_rfl) (by kernel_rfl) 2000 _ [.rd 3, .rd 3, .rd 3, .rd 3] [0,1] rfl rfl (Eq.mpr (stage_Get_raw252_vc b bj r m k0 k1) ?_)
  intro b1
  intro b2
  refine rdQ_mk 1 _ (rdQ_mk 2 _ (opQr_mk (xlook Try.kl252 hk ⟨_,_,rfl⟩) (wlook Try.kl252 hk _) fun x3 h1=> ?_))
  have hx:=h1
  intro b4
  exact rdQ_mk 4 _ (rdQ_mk 4 _ (rdQ_mk 4 _ (rdQ_mk 4 _ ⟨_,⟨by rw [←hx.2.2];exact (num_vI hx.1).symm,hx.2.1⟩,rfl,rfl,rfl,trivial⟩)))
noncomputable def stage_Get252_C:List Value->List Slot->Ctr:=fun vs hs=>⟨Int×Bool,fun zx=> .tuple #[vI zx.1, .bool zx.2],fun _=>hs,fun zx=>zx.1=num ((mget (skv (sarg hs 0)) (varg vs 2)).getD (vI 0))/\zx.2=(mget (skv (sarg hs 0)) (varg vs 2)).isSome⟩
theorem stage_Get252 (b bj:Nat) (m:KV) (k0 k1:Int) :CallT Try.prog 78 #[.pointer (some ⟨b,0,none⟩), .agg #[.int .u8 k0, .int .u8 k1]] [(mS Try.mk252 b bj m)] (Int×Bool) (fun zx=> .tuple #[vI zx.1, .bool zx.2]) (fun zx=> [(mS Try.mk252 b bj m)]) (fun zx=>(zx.1=num ((mget m (Value.agg #[.int .u8 k0, .int .u8 k1])).getD (vI 0))/\zx.2=(mget m (Value.agg #[.int .u8 k0, .int .u8 k1])).isSome)):=by
  refine (mS_call (m' :=fun _=>m) (us:=fun _=> []) (enterOK (c:=bodyOf Try.f78) Try.func78 (by kernel_rfl) (by kernel_rfl)) (fun r hk=> ?_) (fun _ _ h=>h))
  exact stage_Get_raw252 b bj r m k0 k1 hk
abbrev stage_note_raw252_Q (b bj r:Nat) (row:Rw) (m:KV) (k0 k1:Int) (zv:Value) (zs0:Slot) (zs1:Slot) (zs2:Slot) (zs3:Slot) (zs4:Slot) (zs5:Slot) (zs6:Slot) (zs7:Slot):Prop:= ∃zx:Row×N4×Int×Bool,(vals zx.1=vals row++ [(Try.ent252 b m (Value.agg #[.int .u8 k0, .int .u8 k1])).fn zx.2.1]/\zx.2.2.2=(mget m (Value.agg #[.int .u8 k0, .int .u8 k1])).isSome/\vI zx.2.2.1=(mget m (Value.agg #[.int .u8 k0, .int .u8 k1])).getD (vI 0))/\zv= .tuple #[]/\zs0= .blk b (.cells #[.map (some r),pp bj 0, .func (.func 65) #[] #[]] 252 (0,0))/\zs1=(mo r m)/\zs2=bk bj #[sv zx.1] 32/\zs3=(ss 1 zx.1)/\zs4=bk zx.2.1.1 #[.bool zx.2.2.2] 4/\zs5=bk zx.2.1.2.1 (nC zx.2.2.1) 25/\zs6=bk zx.2.1.2.2.1 #[pp b 0] 148/\zs7=bk zx.2.1.2.2.2 #[.int .u8 k0, .int .u8 k1] 141/\True
set_option maxRecDepth 100000 in
theorem stage_note_raw252_vc (b bj r:Nat) (row:Rw) (m:KV) (k0 k1:Int):codeW Try.prog 31 none 2000 none (bodyOf Try.f154) (.reg [.sem [.nw 32], .sem [.nw 33]] (.reg [.sem [.rd 32],S0,S0, .sem [.rd 0], .sem [.rd 33, .rd 33], .specr [1] (F_look (V:=Int) vI R4 (vI 0)),S0,S0,S0, .sem [.nw 31], .sem [.nw 30], .sem (wrs 4 31), .sem [.wr 30]] (.reg [.sem [.rd 32],S0,S0, .sem [.rd 0], .sem [.rd 32],S0,S0, .sem [.rd 0],S0,S0, .sem [.rd 2],S0, .sem [.nw 4], .specw [3,4] [3,4] (F_app 1),S0,S0, .specw [2] [2] F_put] (.done))))
    (init #[pp b 0, .agg #[.int .u8 k0, .int .u8 k1]] [.blk b (.cells #[.map (some r),pp bj 0, .func (.func 65) #[] #[]] 252 (0,0)),(mo r m),bk bj #[sv row] 32,(ss 1 row)]) (finW Try.prog Try.f154 [] [0,1,2,3,30,31,32,33] (X:=Row×N4×Int×Bool) (fun zx=> .tuple #[]) (fun zx=> [.blk b (.cells #[.map (some r),pp bj 0, .func (.func 65) #[] #[]] 252 (0,0)),(mo r m),bk bj #[sv zx.1] 32,(ss 1 zx.1),bk zx.2.1.1 #[.bool zx.2.2.2] 4,bk zx.2.1.2.1 (nC zx.2.2.1) 25,bk zx.2.1.2.2.1 #[pp b 0] 148,bk zx.2.1.2.2.2 #[.int .u8 k0, .int .u8 k1] 141]) (fun zx=>(vals zx.1=vals row++ [(Try.ent252 b m (Value.agg #[.int .u8 k0, .int .u8 k1])).fn zx.2.1]/\zx.2.2.2=(mget m (Value.agg #[.int .u8 k0, .int .u8 k1])).isSome/\vI zx.2.2.1=(mget m (Value.agg #[.int .u8 k0, .int .u8 k1])).getD (vI 0))))=
    (∀b1:Nat,∀b2:Nat,rdQ 1 b1 (rdQ 1 b (rdQ 2 b2 (opQr Try.prog (vS (Instr.lookup 250 (.map (some r)) (.agg #[.int .u8 k0, .int .u8 k1]) true)) [(mo r m)] (Int×Bool) (fun zx=> .tuple #[vI zx.1, .bool zx.2]) (fun zx=>R4 zx.1/\zx.2=(mget m (Value.agg #[.int .u8 k0, .int .u8 k1])).isSome/\vI zx.1=(mget m (Value.agg #[.int .u8 k0, .int .u8 k1])).getD (vI 0)) (fun x3=> ∀b4:Nat,∀b5:Nat,rdQ 4 b4 (rdQ 1 b5 (rdQ 1 b1 (rdQ 1 b (rdQ 1 b1 (rdQ 1 b (rdQ 1 bj (∀b6:Nat,opQ Try.prog (vS (Builtin.append_ #[30,30] 30 #[sv row, .slice (some ⟨b6,0,none⟩) 1 1])) [(ss 1 row), .blk b6 (.cells #[.func (.func 209) #[] #[pp b5 0,pp b4 0,pp b1 0,pp b2 0]] 1 (0,0))] Row (fun zx=>sv zx) (fun zx=> [(ss 1 zx), .blk b6 (.cells #[.func (.func 209) #[] #[pp b5 0,pp b4 0,pp b1 0,pp b2 0]] 1 (0,0))]) (fun zx=>vals zx=rvals (sv row) (ss 1 row)++ [Value.func (.func 209) #[] #[pp b5 0,pp b4 0,pp b1 0,pp b2 0]]) (fun x7=>opQ Try.prog (skS (Instr.storeAt 30 (pp bj 0) (sv x7))) [bk bj #[sv row] 32] Unit (fun _=> .tuple #[]) (fun _=> [bk bj #[sv x7] 32]) (fun _=>True) (fun _=>stage_note_raw252_Q b bj r row m k0 k1 (Value.tuple #[]) (Slot.blk b (.cells #[.map (some r),pp bj 0, .func (.func 65) #[] #[]] 252 (0,0))) (mo r m) (bk bj #[sv x7] 32) (ss 1 x7) (bk b5 #[.bool x3.2] 4) (bk b4 (nC x3.1) 25) (bk b1 #[pp b 0] 148) (bk b2 #[.int .u8 k0, .int .u8 k1] 141))))))))))))))):=by kernel_rfl
set_option maxRecDepth 100000 in
theorem stage_note_raw252 (b bj r:Nat) (row:Rw) (m:KV) (k0 k1:Int) (hk:KOK Try.mk252 m) (hl:(vals row).length<=1073741824):CallT Try.prog 154 #[pp b 0, .agg #[.int .u8 k0, .int .u8 k1]] [.blk b (.cells #[.map (some r),pp bj 0, .func (.func 65) #[] #[]] 252 (0,0)),(mo r m),bk bj #[sv row] 32,(ss 1 row)] (Row×N4×Int×Bool) (fun zx=> .tuple #[]) (fun zx=> [.blk b (.cells #[.map (some r),pp bj 0, .func (.func 65) #[] #[]] 252 (0,0)),(mo r m),bk bj #[sv zx.1] 32,(ss 1 zx.1),bk zx.2.1.1 #[.bool zx.2.2.2] 4,bk zx.2.1.2.1 (nC zx.2.2.1) 25,bk zx.2.1.2.2.1 #[pp b 0] 148,bk zx.2.1.2.2.2 #[.int .u8 k0, .int .u8 k1] 141]) (fun zx=>(vals zx.1=vals row++ [(Try.ent252 b m (Value.agg #[.int .u8 k0, .int .u8 k1])).fn zx.2.1]/\zx.2.2.2=(mget m (Value.agg #[.int .u8 k0, .int .u8 k1])).isSome/\vI zx.2.2.1=(mget m (Value.agg #[.int .u8 k0, .int .u8 k1])).getD (vI 0))):=by
  refine call_of (c:=bodyOf Try.f154) (n:=31) (fn:=Try.f154) Try.mixed Try.func154 (by kernel_rfl) (by kernel_rfl) (by kernel_rfl) 2000 _ [] [0,1,2,3,30,31,32,33] rfl rfl (Eq.mpr (stage_note_raw252_vc b bj r row m k0 k1) ?_)
  intro b1
  intro b2
  refine rdQ_mk 1 _ (rdQ_mk 1 _ (rdQ_mk 2 _ (opQr_mk (xlook Try.kl252 hk ⟨_,_,rfl⟩) (wlook Try.kl252 hk _) fun x3 h1=> ?_)))
  have hx:=h1
  intro b4
  intro b5
  refine rdQ_mk 4 _ (rdQ_mk 1 _ (rdQ_mk 1 _ (rdQ_mk 1 _ (rdQ_mk 1 _ (rdQ_mk 1 _ (rdQ_mk 1 _ (fun b6=>opQ_mk (xappendR Try.sl30 30 row (by rw [dg_len];omega) b6 1 (Value.func (.func 209) #[] #[pp b5 0,pp b4 0,pp b1 0,pp b2 0]) rfl) (wit_app _) fun x7 h2=> ?_)))))))
  rw [rvals_eq] at h2
  have ha:=h2
  exact opQ_mk (xputv (b:=bj) (cs:= #[sv row]) (ty:=32) (te:=30) (fun w=>by kernel_rfl) 0 (sv x7) (cells_sv _) (one_sv _) (by show 0<1;decide)) (⟨(),trivial⟩) fun _ _=>⟨(x7,(b5,b4,b1,b2),x3),⟨ha,hx.2.1,hx.2.2⟩,rfl,rfl,rfl,rfl,rfl,rfl,rfl,rfl,rfl,trivial⟩
noncomputable def stage_note252_C:List Value->List Slot->Ctr:=fun vs hs=>⟨List Ent,fun zx=> .tuple #[],fun zx=> [.blk (vblk (varg vs 1)) (.cells #[.map (some (snum (sarg hs 1) 0)), .pointer (some ⟨(vblk (scell (sarg hs 0) 1)),0,none⟩), .func (.func 65) #[] #[]] 252 (0,0)),(mo (snum (sarg hs 1) 0) (skv (sarg hs 1))),(jS Try.jk (vblk (scell (sarg hs 0) 1)) zx)],fun zx=>zx=(sents (sarg hs 2))++ [(Try.ent252 (vblk (varg vs 1)) (skv (sarg hs 1)) (varg vs 2))]⟩
theorem stage_note252 (b bj r:Nat) (m:KV) (L:List Ent) (k0 k1:Int) (hk:KOK Try.mk252 m) (hl:L.length<=1073741824):CallT Try.prog 154 #[.pointer (some ⟨b,0,none⟩), .agg #[.int .u8 k0, .int .u8 k1]] [.blk b (.cells #[.map (some r), .pointer (some ⟨bj,0,none⟩), .func (.func 65) #[] #[]] 252 (0,0)),(mo r m),(jS Try.jk bj L)] (List Ent) (fun zx=> .tuple #[]) (fun zx=> [.blk b (.cells #[.map (some r), .pointer (some ⟨bj,0,none⟩), .func (.func 65) #[] #[]] 252 (0,0)),(mo r m),(jS Try.jk bj zx)]) (fun zx=>(zx=L++ [(Try.ent252 b m (Value.agg #[.int .u8 k0, .int .u8 k1]))])):=by
  have c:=jS_note (K:=Try.jk) (bj:=bj) (L:=L) (vv:=vI) (e:=(Try.ent252 b m (Value.agg #[.int .u8 k0, .int .u8 k1]))) (mk:=fun _=>default_ent) (enterOK (c:=bodyOf Try.f154) Try.func154 (by kernel_rfl) (by kernel_rfl)) rfl (fun row hr=>stage_note_raw252 b bj r row m k0 k1 hk (by omega))
  exact c.exists fun _ _=>⟨_,rfl,rfl,Imp.refl _⟩
abbrev stage_Set_raw252_Q (b bj r:Nat) (m:KV) (L:List Ent) (k0 k1 v:Int) (zv:Value) (zs0:Slot) (zs1:Slot) (zs2:Slot):Prop:= ∃zx:KV×List Ent,(zx.1=mset m (Value.agg #[.int .u8 k0, .int .u8 k1]) (vI v)/\zx.2=L++ [(Try.ent252 b m (Value.agg #[.int .u8 k0, .int .u8 k1]))])/\zv= .tuple #[]/\zs0= .blk b (.cells #[.map (some r),pp bj 0, .func (.func 65) #[] #[]] 252 (0,0))/\zs1=(mo r zx.1)/\zs2=(jS Try.jk bj zx.2)/\True
set_option maxRecDepth 100000 in
theorem stage_Set_raw252_vc (b bj r:Nat) (m:KV) (L:List Ent) (k0 k1 v:Int):codeW Try.prog 15 none 2000 none (bodyOf Try.f82) (.reg [.sem [.nw 3], .sem [.nw 4]] (.reg [S0, .sem [.rd 3, .rd 3], .callw [0,1,2] [0,1,2] stage_note252_C] (.reg [S0,S0,S0, .sem [.rd 0], .sem [.rd 3, .rd 3], .sem (rds 4 4), .specw [1] [1] F_upd] (.done))))
    (init #[pp b 0, .agg #[.int .u8 k0, .int .u8 k1],vI v] [.blk b (.cells #[.map (some r),pp bj 0, .func (.func 65) #[] #[]] 252 (0,0)),(mo r m),(jS Try.jk bj L)]) (finW Try.prog Try.f82 [] [0,1,2] (X:=KV×List Ent) (fun zx=> .tuple #[]) (fun zx=> [.blk b (.cells #[.map (some r),pp bj 0, .func (.func 65) #[] #[]] 252 (0,0)),(mo r zx.1),(jS Try.jk bj zx.2)]) (fun zx=>(zx.1=mset m (Value.agg #[.int .u8 k0, .int .u8 k1]) (vI v)/\zx.2=L++ [(Try.ent252 b m (Value.agg #[.int .u8 k0, .int .u8 k1]))])))=
    (∀b1:Nat,∀b2:Nat,rdQ 2 b1 (callQ Try.prog 154 #[pp b 0, .agg #[.int .u8 k0, .int .u8 k1]] [.blk b (.cells #[.map (some r),pp bj 0, .func (.func 65) #[] #[]] 252 (0,0)),(mo r m),(jS Try.jk bj L)] (List Ent) (fun zx=> .tuple #[]) (fun zx=> [.blk b (.cells #[.map (some r),pp bj 0, .func (.func 65) #[] #[]] 252 (0,0)),(mo r m),(jS Try.jk bj zx)]) (fun zx=>zx=L++ [(Try.ent252 b m (Value.agg #[.int .u8 k0, .int .u8 k1]))]) (fun x3=>rdQ 1 b (rdQ 2 b1 (rdQ 4 b2 (opQ Try.prog (skS (Instr.mapUpdate 250 (.map (some r)) (.agg #[.int .u8 k0, .int .u8 k1]) (vI v))) [(mo r m)] KV (fun zx=> .tuple #[]) (fun zx=> [(mo r zx)]) (fun zx=>zx=mset m (Value.agg #[.int .u8 k0, .int .u8 k1]) (vI v)) (fun x4=>stage_Set_raw252_Q b bj r m L k0 k1 v (Value.tuple #[]) (Slot.blk b (.cells #[.map (some r),pp bj 0, .func (.func 65) #[] #[]] 252 (0,0))) (mo r x4) (jS Try.jk bj x3)))))))):=by kernel_rfl
set_option maxRecDepth 100000 in
theorem stage_Set_raw252 (b bj r:Nat) (m:KV) (L:List Ent) (k0 k1 v:Int) (r_v:R4 v) (hk:KOK Try.mk252 m) (hl:L.length<=1073741824):CallT Try.prog 82 #[pp b 0, .agg #[.int .u8 k0, .int .u8 k1],vI v] [.blk b (.cells #[.map (some r),pp bj 0, .func (.func 65) #[] #[]] 252 (0,0)),(mo r m),(jS Try.jk bj L)] (KV×List Ent) (fun zx=> .tuple #[]) (fun zx=> [.blk b (.cells #[.map (some r),pp bj 0, .func (.func 65) #[] #[]] 252 (0,0)),(mo r zx.1),(jS Try.jk bj zx.2)]) (fun zx=>(zx.1=mset m (Value.agg #[.int .u8 k0, .int .u8 k1]) (vI v)/\zx.2=L++ [(Try.ent252 b m (Value.agg #[.int .u8 k0, .int .u8 k1]))])):=by
  refine call_of (c:=bodyOf Try.f82) (n:=15) (fn:=Try.f82) Try.mixed Try.func82 (by kernel_rfl) (by kernel_rfl) (by kernel_rfl) 2000 _ [] [0,1,2] rfl rfl (Eq.mpr (stage_Set_raw252_vc b bj r m L k0 k1 v) ?_)
  intro b1
  intro b2
  refine rdQ_mk 2 _ (callQ_mk (stage_note252 b bj r m L k0 k1 (hk) (hl)) (⟨_,rfl⟩) fun x3 h1=> ?_)
  have hn:=h1
  refine rdQ_mk 1 _ (rdQ_mk 2 _ (rdQ_mk 4 _ (opQ_mk (xupd Try.kl252 hk ⟨_,_,rfl⟩ (vI v)) (⟨_,rfl⟩) fun x4 h2=> ?_)))
  have hs:=h2
  exact ⟨(_,_),⟨hs,hn⟩,rfl,rfl,rfl,rfl,trivial⟩
noncomputable def stage_Set252_C:List Value->List Slot->Ctr:=fun vs hs=>⟨KV×List Ent,fun zx=> .tuple #[],fun zx=> [(mS Try.mk252 (vblk (varg vs 1)) (snum (sarg hs 0) 1) zx.1),(jS Try.jk (snum (sarg hs 0) 1) zx.2)],fun zx=>zx.1=mset (skv (sarg hs 0)) (varg vs 2) (varg vs 3)/\zx.2=(sents (sarg hs 1))++ [(Try.ent252 (vblk (varg vs 1)) (skv (sarg hs 0)) (varg vs 2))]⟩
theorem stage_Set252 (b bj:Nat) (m:KV) (L:List Ent) (k0 k1 v:Int) (r_v:R4 v)  (hl:L.length<=1073741824):CallT Try.prog 82 #[.pointer (some ⟨b,0,none⟩), .agg #[.int .u8 k0, .int .u8 k1],vI v] [(mS Try.mk252 b bj m),(jS Try.jk bj L)] (KV×List Ent) (fun zx=> .tuple #[]) (fun zx=> [(mS Try.mk252 b bj zx.1),(jS Try.jk bj zx.2)]) (fun zx=>(zx.1=mset m (Value.agg #[.int .u8 k0, .int .u8 k1]) (vI v)/\zx.2=L++ [(Try.ent252 b m (Value.agg #[.int .u8 k0, .int .u8 k1]))])):=by
  refine mS_call (m' :=fun x:KV×List Ent=>x.1) (us:=fun x=> [(jS Try.jk bj x.2)]) (enterOK (c:=bodyOf Try.f82) Try.func82 (by kernel_rfl) (by kernel_rfl)) (fun r hk=> ?_) (fun x hx h=> ?_)
  · exact (stage_Set_raw252 b bj r m L k0 k1 v r_v hk hl)
  · exact hx.1▸h.set (⟨_,_,rfl⟩) (⟨_,r_v,rfl⟩)
theorem Try.numk252:NumK Try.mk252:=fun _=>Iff.rfl
theorem Try.stk:StK Try.mk249:=fun _=>Iff.rfl
noncomputable def pool_New_C:List Value->List Slot->Ctr:=fun vs hs=>⟨Nat×Nat×Nat,fun zx=>pp zx.1 0,fun zx=> [bk zx.1 #[pp zx.2.1 0,pp zx.2.2 0, .slice none 0 0] 151,(mS Try.mk249 zx.2.1 (vblk (varg vs 1)) ([])),(mS Try.mk252 zx.2.2 (vblk (varg vs 1)) ([]))],fun zx=>True⟩
abbrev pool_New_Q (bj:Nat) (zv:Value) (zs0:Slot) (zs1:Slot) (zs2:Slot):Prop:= ∃zx:Nat×Nat×Nat,(True)/\zv=pp zx.1 0/\zs0=bk zx.1 #[pp zx.2.1 0,pp zx.2.2 0, .slice none 0 0] 151/\zs1=(mS Try.mk249 zx.2.1 bj ([]))/\zs2=(mS Try.mk252 zx.2.2 bj ([]))/\True
abbrev pool_New_A (bj:Nat) (zF:SF (Nat×Nat×Nat)):Prop:=zF #[pp bj 0, .agg #[.slice none 0 0]] [] (fun zx=>pp zx.1 0) (fun zx=> [bk zx.1 #[pp zx.2.1 0,pp zx.2.2 0, .slice none 0 0] 151,(mS Try.mk249 zx.2.1 bj ([])),(mS Try.mk252 zx.2.2 bj ([]))]) (fun zx=>(True))
set_option maxRecDepth 100000 in
theorem pool_New_vc (bj:Nat):pool_New_A bj (fun za zh zv zu zp=>codeW Try.prog 14 none 2000 none (bodyOf Try.f11) (.reg [.sem [.nw 0],S0] (.reg [S0] (.reg [S0, .callw [] [21] stage_New249_C,S0,S0, .callw [] [22] stage_New252_C, .sem [.rd 0],S0, .sem [.nw 20],S0] (.done))))
    (init za zh) (finW Try.prog Try.f11 [] [20,21,22] (X:=Nat×Nat×Nat) zv zu zp))=
    (∀b1:Nat,callQ Try.prog 68 #[pp bj 0, .func (.func 69) #[] #[]] [] Nat (fun zx=>pp zx 0) (fun zx=> [(mS Try.mk249 zx bj ([]))]) (fun zx=>True) (fun x2=>callQ Try.prog 70 #[pp bj 0, .func (.func 65) #[] #[]] [] Nat (fun zx=>pp zx 0) (fun zx=> [(mS Try.mk252 zx bj ([]))]) (fun zx=>True) (fun x3=>rdQ 1 b1 (∀b4:Nat,pool_New_Q bj (pp b4 0) (bk b4 #[pp x2 0,pp x3 0, .slice none 0 0] 151) (mS Try.mk249 x2 bj ([])) (mS Try.mk252 x3 bj ([])))))):=by kernel_rfl
set_option maxRecDepth 100000 in
theorem pool_New (bj:Nat) :pool_New_A bj (fun za zh zv zu zp=>CallT Try.prog 11 za zh (Nat×Nat×Nat) zv zu zp):=by
  refine call_of (c:=bodyOf Try.f11) (n:=14) (fn:=Try.f11) Try.mixed Try.func11 (by kernel_rfl) (by kernel_rfl) (by kernel_rfl) 2000 _ [] [20,21,22] rfl rfl (Eq.mpr (pool_New_vc bj) ?_)
  intro b1
  exact callQ_mk (stage_New249 bj) (⟨0,trivial⟩) fun x2 h1=>callQ_mk (stage_New252 bj) (⟨0,trivial⟩) fun x3 h2=>rdQ_mk 1 _ (fun b4=>⟨(b4,x2,x3),trivial,rfl,rfl,rfl,rfl,trivial⟩)
abbrev pool_New_K (bj:Nat) (KK:(Nat×Nat×Nat)->Prop):Prop:=pool_New_A bj (fun za zh zv zu zp=>callQ Try.prog 11 za zh (Nat×Nat×Nat) zv zu zp KK)
theorem pool_New_m (bj:Nat) {KK:(Nat×Nat×Nat)->Prop} (kont: ∀zx:Nat×Nat×Nat,(True)->KK zx) :pool_New_K bj KK:=callQ_mk (pool_New bj) (⟨(0,0,0),trivial⟩) fun zx hz=>by
  exact kont zx hz
noncomputable def pool_Of_C:List Value->List Slot->Ctr:=fun vs hs=>⟨ST,fun zx=>stV (zx.1,zx.2.1,zx.2.2.1,zx.2.2.2),fun _=>hs,fun zx=>okS zx/\zx=pOf (skv (sarg hs 1)) (ci (varg vs 2))⟩
abbrev pool_Of_Q (b bm bh bj:Nat) (m:KV) (t:Int) (zv:Value) (zs0:Slot) (zs1:Slot):Prop:= ∃zx:ST,(okS zx/\zx=pOf m t)/\zv=stV (zx.1,zx.2.1,zx.2.2.1,zx.2.2.2)/\zs0=bk b #[pp bm 0,pp bh 0, .slice none 0 0] 151/\zs1=(mS Try.mk249 bm bj m)/\True
abbrev pool_Of_A (b bm bh bj:Nat) (m:KV) (t:Int) (zF:SF ST):Prop:=zF #[pp b 0, .int .u8 t] [bk b #[pp bm 0,pp bh 0, .slice none 0 0] 151,(mS Try.mk249 bm bj m)] (fun zx=>stV (zx.1,zx.2.1,zx.2.2.1,zx.2.2.2)) (fun zx=> [bk b #[pp bm 0,pp bh 0, .slice none 0 0] 151,(mS Try.mk249 bm bj m)]) (fun zx=>(okS zx/\zx=pOf m t))
set_option maxRecDepth 100000 in
theorem pool_Of_vc (b bm bh bj:Nat) (m:KV) (t:Int):pool_Of_A b bm bh bj m t (fun za zh zv zu zp=>codeW Try.prog 17 none 2000 none (bodyOf Try.f15) (.reg [.sem [.nw 2]] (.reg [S0,S0,S0, .sem [.rd 0],S0, .callr [1] stage_Get249_C,S0,S0,S0, .sem [.nw 3], .sem (wrs 16 3),S0] (.reg [.sem (rds 16 3), .sem (wrs 16 2)] (.done))))
    (init za zh) (finW Try.prog Try.f15 [.rd 2, .rd 2, .rd 2, .rd 2, .rd 2, .rd 2, .rd 2, .rd 2, .rd 2, .rd 2, .rd 2, .rd 2, .rd 2, .rd 2, .rd 2, .rd 2] [0,1] (X:=ST) zv zu zp))=
    (∀b1:Nat,rdQ 1 b (callQr Try.prog 83 #[pp bm 0, .int .u8 t] [(mS Try.mk249 bm bj m)] (ST×Bool) (fun zx=> .tuple #[stV (zx.1.1,zx.1.2.1,zx.1.2.2.1,zx.1.2.2.2), .bool zx.2]) (fun zx=>zx.1=unST ((mget m (Value.int .u8 t)).getD ((stV s0)))/\zx.2=(mget m (Value.int .u8 t)).isSome) (fun x2=> ∀b3:Nat,rdQ 16 b3 (rdQ 16 b3 (rdQ 16 b1 (rdQ 16 b1 (pool_Of_Q b bm bh bj m t (stV (x2.1.1,x2.1.2.1,x2.1.2.2.1,x2.1.2.2.2)) (bk b #[pp bm 0,pp bh 0, .slice none 0 0] 151) (mS Try.mk249 bm bj m)))))))):=by kernel_rfl
set_option maxRecDepth 100000 in
theorem pool_Of (b bm bh bj:Nat) (m:KV) (t:Int) (hk:KOK Try.mk249 m):pool_Of_A b bm bh bj m t (fun za zh zv zu zp=>CallT Try.prog 15 za zh ST zv zu zp):=by
  refine call_of (c:=bodyOf Try.f15) (n:=17) (fn:=Try.f15) Try.mixed Try.func15 (by kernel_rfl) (by kernel_rfl) (by kernel_rfl) 2000 _ [.rd 2, .rd 2, .rd 2, .rd 2, .rd 2, .rd 2, .rd 2, .rd 2, .rd 2, .rd 2, .rd 2, .rd 2, .rd 2, .rd 2, .rd 2, .rd 2] [0,1] rfl rfl (Eq.mpr (pool_Of_vc b bm bh bj m t) ?_)
  intro b1
  refine rdQ_mk 1 _ (callQr_mk (stage_Get249 bm bj m t) (⟨(_,_),rfl,rfl⟩) fun x2 h1=> ?_)
  have hg:=h1.1
  intro b3
  exact rdQ_mk 16 _ (rdQ_mk 16 _ (rdQ_mk 16 _ (rdQ_mk 16 _ ⟨_,⟨by rw [hg];exact StK.of Try.stk hk t,hg⟩,rfl,rfl,rfl,trivial⟩)))
abbrev pool_Of_K (b bm bh bj:Nat) (m:KV) (t:Int) (KK:ST->Prop):Prop:=pool_Of_A b bm bh bj m t (fun za zh zv zu zp=>callQr Try.prog 15 za zh ST zv zp KK)
theorem pool_Of_m (b bm bh bj:Nat) (m:KV) (t:Int) {KK:ST->Prop} (kont: ∀zx:ST,okS zx->(zx=pOf m t)->KK zx) (hk:KOK Try.mk249 m:=by assumption):pool_Of_K b bm bh bj m t KK:=callQr_mk (pool_Of b bm bh bj m t hk) (⟨_,StK.of Try.stk (by assumption) _,rfl⟩) fun zx hz=>by
  obtain ⟨rhz_,hz⟩:=hz
  exact kont zx rhz_ hz
noncomputable def pool_Held_C:List Value->List Slot->Ctr:=fun vs hs=>⟨Int,fun zx=>vI zx,fun _=>hs,fun zx=>R4 zx/\zx=bal (skv (sarg hs 1)) (ci (varg vs 2)) (ci (varg vs 3))⟩
abbrev pool_Held_Q (b bm bh bj:Nat) (h:KV) (t a:Int) (zv:Value) (zs0:Slot) (zs1:Slot):Prop:= ∃zx:Int,(R4 zx/\zx=bal h t a)/\zv=vI zx/\zs0=bk b #[pp bm 0,pp bh 0, .slice none 0 0] 151/\zs1=(mS Try.mk252 bh bj h)/\True
abbrev pool_Held_A (b bm bh bj:Nat) (h:KV) (t a:Int) (zF:SF Int):Prop:=zF #[pp b 0, .int .u8 t, .int .u8 a] [bk b #[pp bm 0,pp bh 0, .slice none 0 0] 151,(mS Try.mk252 bh bj h)] (fun zx=>vI zx) (fun zx=> [bk b #[pp bm 0,pp bh 0, .slice none 0 0] 151,(mS Try.mk252 bh bj h)]) (fun zx=>(R4 zx/\zx=bal h t a))
set_option maxRecDepth 100000 in
theorem pool_Held_vc (b bm bh bj:Nat) (h:KV) (t a:Int):pool_Held_A b bm bh bj h t a (fun za zh zv zu zp=>codeW Try.prog 21 none 2000 none (bodyOf Try.f13) (.reg [.sem [.nw 2]] (.reg [S0,S0,S0, .sem [.rd 0],S0,S0,S0, .callr [1] stage_Get252_C,S0,S0,S0, .sem [.nw 3], .sem (wrs 4 3),S0] (.reg [.sem (rds 4 3), .sem (wrs 4 2)] (.done))))
    (init za zh) (finW Try.prog Try.f13 [.rd 2, .rd 2, .rd 2, .rd 2] [0,1] (X:=Int) zv zu zp))=
    (∀b1:Nat,rdQ 1 b (callQr Try.prog 78 #[pp bh 0, .agg #[.int .u8 t, .int .u8 a]] [(mS Try.mk252 bh bj h)] (Int×Bool) (fun zx=> .tuple #[vI zx.1, .bool zx.2]) (fun zx=>zx.1=num ((mget h (Value.agg #[.int .u8 t, .int .u8 a])).getD (vI 0))/\zx.2=(mget h (Value.agg #[.int .u8 t, .int .u8 a])).isSome) (fun x2=> ∀b3:Nat,rdQ 4 b3 (rdQ 4 b3 (rdQ 4 b1 (rdQ 4 b1 (pool_Held_Q b bm bh bj h t a (vI x2.1) (bk b #[pp bm 0,pp bh 0, .slice none 0 0] 151) (mS Try.mk252 bh bj h)))))))):=by kernel_rfl
set_option maxRecDepth 100000 in
theorem pool_Held (b bm bh bj:Nat) (h:KV) (t a:Int) (hh:KOK Try.mk252 h):pool_Held_A b bm bh bj h t a (fun za zh zv zu zp=>CallT Try.prog 13 za zh Int zv zu zp):=by
  refine call_of (c:=bodyOf Try.f13) (n:=21) (fn:=Try.f13) Try.mixed Try.func13 (by kernel_rfl) (by kernel_rfl) (by kernel_rfl) 2000 _ [.rd 2, .rd 2, .rd 2, .rd 2] [0,1] rfl rfl (Eq.mpr (pool_Held_vc b bm bh bj h t a) ?_)
  intro b1
  refine rdQ_mk 1 _ (callQr_mk (stage_Get252 bh bj h t a) (⟨(_,_),rfl,rfl⟩) fun x2 h1=> ?_)
  have hg:=h1.1
  intro b3
  exact rdQ_mk 4 _ (rdQ_mk 4 _ (rdQ_mk 4 _ (rdQ_mk 4 _ ⟨_,⟨by rw [hg];exact KOK.R4v Try.numk252 hh _,hg⟩,rfl,rfl,rfl,trivial⟩)))
abbrev pool_Held_K (b bm bh bj:Nat) (h:KV) (t a:Int) (KK:Int->Prop):Prop:=pool_Held_A b bm bh bj h t a (fun za zh zv zu zp=>callQr Try.prog 13 za zh Int zv zp KK)
theorem pool_Held_m (b bm bh bj:Nat) (h:KV) (t a:Int) {KK:Int->Prop} (kont: ∀zx:Int,R4 zx->(zx=bal h t a)->KK zx) (hh:KOK Try.mk252 h:=by assumption):pool_Held_K b bm bh bj h t a KK:=callQr_mk (pool_Held b bm bh bj h t a hh) (⟨_,KOK.R4v Try.numk252 (by assumption) _,rfl⟩) fun zx hz=>by
  obtain ⟨rhz_,hz⟩:=hz
  exact kont zx rhz_ hz
noncomputable def pool_assets_C:List Value->List Slot->Ctr:=fun vs hs=>⟨Int,fun zx=>vI zx,fun _=>hs,fun zx=>R4 zx/\zx=asst (((num (.agg #[cell (varg vs 1) 0,cell (varg vs 1) 1,cell (varg vs 1) 2,cell (varg vs 1) 3])),(num (.agg #[cell (varg vs 1) 4,cell (varg vs 1) 5,cell (varg vs 1) 6,cell (varg vs 1) 7])),(num (.agg #[cell (varg vs 1) 8,cell (varg vs 1) 9,cell (varg vs 1) 10,cell (varg vs 1) 11])),(num (.agg #[cell (varg vs 1) 12,cell (varg vs 1) 13,cell (varg vs 1) 14,cell (varg vs 1) 15]))):ST)⟩
abbrev pool_assets_Q (c0 c1 c2 c3:Int) (zv:Value) :Prop:= ∃zx:Int,(R4 zx/\zx=asst (((num (vI c0)),(num (vI c1)),(num (vI c2)),(num (vI c3))):ST))/\zv=vI zx/\True
abbrev pool_assets_A (c0 c1 c2 c3:Int) (zF:SF Int):Prop:=zF #[stV (c0,c1,c2,c3)] [] (fun zx=>vI zx) (fun zx=> []) (fun zx=>(R4 zx/\zx=asst (((num (vI c0)),(num (vI c1)),(num (vI c2)),(num (vI c3))):ST)))
set_option maxRecDepth 100000 in
theorem pool_assets_vc (c0 c1 c2 c3:Int):pool_assets_A c0 c1 c2 c3 (fun za zh zv zu zp=>codeW Try.prog 14 none 2000 none (bodyOf Try.f80) (.reg [.sem [.nw 0], .sem [.nw 1]] (.reg [S0, .sem (rds 4 0),S0, .sem (rds 4 0), .callr [] huge_Add_C,S0,S0,S0, .sem [.nw 2], .sem (wrs 4 2),S0] (.reg [.sem (rds 4 2), .sem (wrs 4 1)] (.done))))
    (init za zh) (finW Try.prog Try.f80 [.rd 1, .rd 1, .rd 1, .rd 1] [] (X:=Int) zv zu zp))=
    (∀b1:Nat,∀b2:Nat,rdQ 8 b1 (huge_Add_K c0 c1 (fun x3=> ∀b4:Nat,rdQ 4 b4 (rdQ 4 b4 (rdQ 4 b2 (rdQ 4 b2 (pool_assets_Q c0 c1 c2 c3 (vI x3.1)))))))):=by kernel_rfl
set_option maxRecDepth 100000 in
theorem pool_assets (c0 c1 c2 c3:Int) (r_c0:R4 c0) (r_c1:R4 c1) (r_c2:R4 c2) (r_c3:R4 c3):pool_assets_A c0 c1 c2 c3 (fun za zh zv zu zp=>CallT Try.prog 80 za zh Int zv zu zp):=by
  refine call_of (c:=bodyOf Try.f80) (n:=14) (fn:=Try.f80) Try.mixed Try.func80 (by kernel_rfl) (by kernel_rfl) (by kernel_rfl) 2000 _ [.rd 1, .rd 1, .rd 1, .rd 1] [] rfl rfl (Eq.mpr (pool_assets_vc c0 c1 c2 c3) ?_)
  intro b1
  intro b2
  refine rdQ_mk 8 _ (huge_Add_m c0 c1 (fun x3 rh1_1 h1=> ?_))
  have ha:=h1
  intro b4
  exact rdQ_mk 4 _ (rdQ_mk 4 _ (rdQ_mk 4 _ (rdQ_mk 4 _ ⟨_,⟨by assumption,by unfold asst;rw [ha];simp only [num_vI r_c0,num_vI r_c1]⟩,rfl,trivial⟩)))
abbrev pool_assets_K (c0 c1 c2 c3:Int) (KK:Int->Prop):Prop:=pool_assets_A c0 c1 c2 c3 (fun za zh zv zu zp=>callQr Try.prog 80 za zh Int zv zp KK)
theorem pool_assets_m (c0 c1 c2 c3:Int) {KK:Int->Prop} (kont: ∀zx:Int,R4 zx->(zx=asst ((c0,c1,c2,c3):ST))->KK zx) (r_c0:R4 c0:=by assumption) (r_c1:R4 c1:=by assumption) (r_c2:R4 c2:=by assumption) (r_c3:R4 c3:=by assumption):pool_assets_K c0 c1 c2 c3 KK:=callQr_mk (pool_assets c0 c1 c2 c3 r_c0 r_c1 r_c2 r_c3) (⟨_,asst_R (s:=(num (vI c0),num (vI c1),num (vI c2),num (vI c3))) ⟨R4_num _,R4_num _,R4_num _,R4_num _⟩,rfl⟩) fun zx hz=>by
  obtain ⟨rhz_,hz⟩:=hz
  try simp only [num_vI (n:=c0) r_c0,num_vI (n:=c1) r_c1,num_vI (n:=c2) r_c2,num_vI (n:=c3) r_c3] at hz
  exact kont zx rhz_ hz
noncomputable def pool_Join_C:List Value->List Slot->Ctr:=fun vs hs=>⟨(Int×Int)×BS,fun zx=> .tuple #[vI zx.1.1, .int .i64 zx.1.2],fun zx=> [.blk (vblk (varg vs 1)) (.cells #[.pointer (some ⟨(vblk (scell (sarg hs 0) 0)),0,none⟩), .pointer (some ⟨(vblk (scell (sarg hs 0) 1)),0,none⟩), .slice none 0 0] 151 (0,0)),(mS Try.mk249 (vblk (scell (sarg hs 0) 0)) (snum (sarg hs 1) 1) zx.2.1),(mS Try.mk252 (vblk (scell (sarg hs 0) 1)) (snum (sarg hs 1) 1) zx.2.2.1),(jS Try.jk (snum (sarg hs 1) 1) zx.2.2.2)],fun zx=>R4 zx.1.1/\zx=pJoin (Try.ent249 (vblk (scell (sarg hs 0) 0))) (Try.ent252 (vblk (scell (sarg hs 0) 1))) (((skv (sarg hs 1)),(skv (sarg hs 2)),(sents (sarg hs 3))):BS) (ci (varg vs 2)) (ci (varg vs 3)) (num (varg vs 4))⟩
abbrev pool_Join_Q (b bm bh bj:Nat) (m h:KV) (L:List Ent) (t a n:Int) (zv:Value) (zs0:Slot) (zs1:Slot) (zs2:Slot) (zs3:Slot):Prop:= ∃zx:(Int×Int)×BS,(R4 zx.1.1/\zx=pJoin (Try.ent249 bm) (Try.ent252 bh) ((m,h,L):BS) t a (num (vI n)))/\zv= .tuple #[vI zx.1.1, .int .i64 zx.1.2]/\zs0=bk b #[pp bm 0,pp bh 0, .slice none 0 0] 151/\zs1=(mS Try.mk249 bm bj zx.2.1)/\zs2=(mS Try.mk252 bh bj zx.2.2.1)/\zs3=(jS Try.jk bj zx.2.2.2)/\True
abbrev pool_Join_A (b bm bh bj:Nat) (m h:KV) (L:List Ent) (t a n:Int) (zF:SF ((Int×Int)×BS)):Prop:=zF #[pp b 0, .int .u8 t, .int .u8 a,vI n] [bk b #[pp bm 0,pp bh 0, .slice none 0 0] 151,(mS Try.mk249 bm bj m),(mS Try.mk252 bh bj h),(jS Try.jk bj L)] (fun zx=> .tuple #[vI zx.1.1, .int .i64 zx.1.2]) (fun zx=> [bk b #[pp bm 0,pp bh 0, .slice none 0 0] 151,(mS Try.mk249 bm bj zx.2.1),(mS Try.mk252 bh bj zx.2.2.1),(jS Try.jk bj zx.2.2.2)]) (fun zx=>(R4 zx.1.1/\zx=pJoin (Try.ent249 bm) (Try.ent252 bh) ((m,h,L):BS) t a (num (vI n))))
set_option maxRecDepth 100000 in
set_option maxHeartbeats 1000000 in
theorem pool_Join_vc (b bm bh bj:Nat) (m h:KV) (L:List Ent) (t a n:Int):pool_Join_A b bm bh bj m h L t a n (fun za zh zv zu zp=>codeW Try.prog 80 none 2000 none (bodyOf Try.f14) (.reg [.sem [.nw 4], .sem [.nw 5],S0] (.caseP (fun s=>decide ((ci (s.fr 1))≥(4:Int))) (.reg [S0, .gen [] (Sx.one (.bool true)),S0, .no, .no,S0] (.condT (.reg [S0, .sem (wrs 4 5),S0] (.done)))) (.reg [S0, .gen [] (Sx.one (.bool false)),S0,S0,S0,S0] (.cond (.reg [S0, .sem (wrs 4 5),S0] (.done)) (.reg [S0,S0, .callr [0,1] pool_Of_C, .sem [.nw 6], .sem (wrs 16 6)] (.reg [.sem (rds 16 6), .callr [] pool_assets_C,S0, .sem (rds 4 6), .sem (rds 4 4), .callr [] share_In_C,S0,S0,S0, .sem [.nw 7], .sem (wrs 4 7),S0] (.reg [S0,S0] (.cond (.reg [S0,S0, .sem (wrs 4 5),S0] (.done)) (.reg [S0, .sem (rds 4 6), .sem (rds 4 4), .callr [] huge_Add_C,S0,S0,S0,S0, .sem (wrs 4 6)] (.reg [S0, .sem (rds 4 6), .sem (rds 4 7), .callr [] huge_Add_C,S0,S0,S0,S0, .sem (wrs 4 6)] (.reg [S0,S0,S0, .callr [0,2] pool_Held_C, .sem (rds 4 7), .callr [] huge_Add_C,S0,S0,S0, .sem [.nw 8], .sem (wrs 4 8),S0] (.reg [S0,S0,S0, .sem [.rd 0],S0, .sem (rds 16 6), .callw [1,3] [1,3] stage_Set249_C] (.reg [S0,S0,S0, .sem [.rd 0],S0,S0,S0, .sem (rds 4 8), .callw [2,3] [2,3] stage_Set252_C] (.reg [.sem (rds 4 7), .sem (wrs 4 5),S0] (.done)))))))))))))))
    (init za zh) (finW Try.prog Try.f14 [.rd 5, .rd 5, .rd 5, .rd 5] [0,1,2,3] (X:=(Int×Int)×BS) zv zu zp))=
    (∀b1:Nat,∀b2:Nat,((decide (t≥(4:Int)))=true->(∃_:Unit,True/\Value.bool (decide (t≥(4:Int)))= .bool true)/\ ∀_:Unit,(True)->true= !false/\true= !false/\(true=true)/\rdQ 4 b2 (rdQ 4 b2 (pool_Join_Q b bm bh bj m h L t a n (Value.tuple #[.agg #[uu 0,uu 0,uu 0,uu 0], .int .i64 1]) (bk b #[pp bm 0,pp bh 0, .slice none 0 0] 151) (mS Try.mk249 bm bj m) (mS Try.mk252 bh bj h) (jS Try.jk bj L))))/\((decide (t≥(4:Int)))=false->(∃_:Unit,True/\Value.bool (decide (t≥(4:Int)))= .bool false)/\ ∀_:Unit,(True)->false=false/\false=false/\((decide (a≥(16:Int)))=true->rdQ 4 b2 (rdQ 4 b2 (pool_Join_Q b bm bh bj m h L t a n (Value.tuple #[.agg #[uu 0,uu 0,uu 0,uu 0], .int .i64 1]) (bk b #[pp bm 0,pp bh 0, .slice none 0 0] 151) (mS Try.mk249 bm bj m) (mS Try.mk252 bh bj h) (jS Try.jk bj L))))/\((decide (a≥(16:Int)))=false->pool_Of_K b bm bh bj m t (fun x3=> ∀b4:Nat,rdQ 16 b4 (rdQ 16 b4 (pool_assets_K x3.1 x3.2.1 x3.2.2.1 x3.2.2.2 (fun x5=>rdQ 4 b4 (rdQ 4 b1 (share_In_K x5 x3.2.2.2 n (fun x6=> ∀b7:Nat,rdQ 4 b7 (((x6.2 !=(0:Int))=true->rdQ 4 b2 (rdQ 4 b2 (pool_Join_Q b bm bh bj m h L t a n (Value.tuple #[.agg #[uu 0,uu 0,uu 0,uu 0], .int .i64 x6.2]) (bk b #[pp bm 0,pp bh 0, .slice none 0 0] 151) (mS Try.mk249 bm bj m) (mS Try.mk252 bh bj h) (jS Try.jk bj L))))/\((x6.2 !=(0:Int))=false->rdQ 4 b4 (rdQ 4 b1 (huge_Add_K x3.1 n (fun x8=>rdQ 4 b4 (rdQ 4 b4 (rdQ 4 b7 (huge_Add_K x3.2.2.2 x6.1 (fun x9=>rdQ 4 b4 (pool_Held_K b bm bh bj h t a (fun x10=>rdQ 4 b7 (huge_Add_K x10 x6.1 (fun x11=> ∀b12:Nat,rdQ 4 b12 (rdQ 1 b (rdQ 16 b4 (callQ Try.prog 81 #[pp bm 0, .int .u8 t,stV (x8.1,x3.2.1,x3.2.2.1,x9.1)] [(mS Try.mk249 bm bj m),(jS Try.jk bj L)] (KV×List Ent) (fun zx=> .tuple #[]) (fun zx=> [(mS Try.mk249 bm bj zx.1),(jS Try.jk bj zx.2)]) (fun zx=>zx.1=mset m (Value.int .u8 t) (stV (x8.1,x3.2.1,x3.2.2.1,x9.1))/\zx.2=L++ [(Try.ent249 bm m (Value.int .u8 t))]) (fun x13=>rdQ 1 b (rdQ 4 b12 (callQ Try.prog 82 #[pp bh 0, .agg #[.int .u8 t, .int .u8 a],vI x11.1] [(mS Try.mk252 bh bj h),(jS Try.jk bj x13.2)] (KV×List Ent) (fun zx=> .tuple #[]) (fun zx=> [(mS Try.mk252 bh bj zx.1),(jS Try.jk bj zx.2)]) (fun zx=>zx.1=mset h (Value.agg #[.int .u8 t, .int .u8 a]) (vI x11.1)/\zx.2=x13.2++ [(Try.ent252 bh h (Value.agg #[.int .u8 t, .int .u8 a]))]) (fun x14=>rdQ 4 b7 (rdQ 4 b2 (rdQ 4 b2 (pool_Join_Q b bm bh bj m h L t a n (Value.tuple #[vI x6.1, .int .i64 0]) (bk b #[pp bm 0,pp bh 0, .slice none 0 0] 151) (mS Try.mk249 bm bj x13.1) (mS Try.mk252 bh bj x14.1) (jS Try.jk bj x14.2)))))))))))))))))))))))))))))))))):=by kernel_rfl
set_option maxRecDepth 100000 in
set_option maxHeartbeats 1000000 in
theorem pool_Join (b bm bh bj:Nat) (m h:KV) (L:List Ent) (t a n:Int) (r_n:R4 n) (wt:(Lit.int .u8 t).wf=true) (wa:(Lit.int .u8 a).wf=true) (hk:KOK Try.mk249 m) (hh:KOK Try.mk252 h) (hl:L.length<=1000000):pool_Join_A b bm bh bj m h L t a n (fun za zh zv zu zp=>CallT Try.prog 14 za zh ((Int×Int)×BS) zv zu zp):=by
  refine call_of (c:=bodyOf Try.f14) (n:=80) (fn:=Try.f14) Try.mixed Try.func14 (by kernel_rfl) (by kernel_rfl) (by kernel_rfl) 2000 _ [.rd 5, .rd 5, .rd 5, .rd 5] [0,1,2,3] rfl rfl (Eq.mpr (pool_Join_vc b bm bh bj m h L t a n) ?_)
  intro b1
  intro b2
  refine ⟨fun h1=> ?_,fun h1=> ?_⟩
  · exact ⟨⟨(),trivial,congrArg Value.bool h1⟩,fun _=>fun _=>⟨rfl,rfl,⟨rfl,rdQ_mk 4 _ (rdQ_mk 4 _ ⟨((0,1),m,h,L),⟨R4_zero,by rw [num_vI r_n];exact (pJoin_arg (by (try simp (disch:=first | assumption | exact R4_zero | exact R4_one) only [rdx] at *);omega)).symm⟩,by rw [vI_zero],rfl,rfl,rfl,rfl,trivial⟩)⟩⟩⟩
  refine ⟨⟨(),trivial,congrArg Value.bool h1⟩,fun _=>fun _=>⟨rfl,rfl,⟨fun h2=> ?_,fun h2=> ?_⟩⟩⟩
  · exact rdQ_mk 4 _ (rdQ_mk 4 _ ⟨((0,1),m,h,L),⟨R4_zero,by rw [num_vI r_n];exact (pJoin_arg (by (try simp (disch:=first | assumption | exact R4_zero | exact R4_one) only [rdx] at *);omega)).symm⟩,by rw [vI_zero],rfl,rfl,rfl,rfl,trivial⟩)
  refine pool_Of_m b bm bh bj m t (fun x3 rh3_ h3=> ?_)
  have rah3:=rh3_.a;have rbh3:=rh3_.b;have rch3:=rh3_.c;have rdh3:=rh3_.d
  have hq:=h3
  intro b4
  refine rdQ_mk 16 _ (rdQ_mk 16 _ (pool_assets_m x3.1 x3.2.1 x3.2.2.1 x3.2.2.2 (fun x5 rh4_ h4=> ?_)))
  have ha:=h4
  refine rdQ_mk 4 _ (rdQ_mk 4 _ (share_In_m x5 x3.2.2.2 n (fun x6 rh5_1 h5=> ?_)))
  have hg:=h5
  intro b7
  refine rdQ_mk 4 _ ⟨fun h6=> ?_,fun h6=> ?_⟩
  · refine rdQ_mk 4 _ (rdQ_mk 4 _ ?_)
    have hz:=(bne_iff_ne.1 h6)
    have hc: ¬ (4<=t∨16<=a):=by (try simp (disch:=first | assumption | exact R4_zero | exact R4_one) only [rdx] at *);omega
    exact ⟨((0,x6.2),m,h,L),⟨R4_zero,by rw [num_vI r_n];exact (pJoin_no hc hq ha hg hz).symm⟩,by rw [vI_zero],rfl,rfl,rfl,rfl,trivial⟩
  refine rdQ_mk 4 _ (rdQ_mk 4 _ (huge_Add_m x3.1 n (fun x8 rh7_1 h7=> ?_)))
  have h1_:=h7
  refine rdQ_mk 4 _ (rdQ_mk 4 _ (rdQ_mk 4 _ (huge_Add_m x3.2.2.2 x6.1 (fun x9 rh8_1 h8=> ?_))))
  have h2_:=h8
  refine rdQ_mk 4 _ (pool_Held_m b bm bh bj h t a (fun x10 rh9_ h9=> ?_))
  have hb_:=h9
  refine rdQ_mk 4 _ (huge_Add_m x10 x6.1 (fun x11 rh10_1 h10=> ?_))
  have h3_:=h10
  intro b12
  refine rdQ_mk 4 _ (rdQ_mk 1 _ (rdQ_mk 16 _ (callQ_mk (stage_Set249 bm bj m L t x8.1 x3.2.1 x3.2.2.1 x9.1 (by assumption) (by assumption) (by assumption) (by assumption) (by omega)) (⟨(_,_),rfl,rfl⟩) fun x13 h11=> ?_)))
  try simp only [num_vI (n:=x8.1) (by assumption),num_vI (n:=x3.2.1) (by assumption),num_vI (n:=x3.2.2.1) (by assumption),num_vI (n:=x9.1) (by assumption)] at h11
  have hs1:=h11
  refine rdQ_mk 1 _ (rdQ_mk 4 _ (callQ_mk (stage_Set252 bh bj h x13.2 t a x11.1 (by assumption) (by rw [hs1.2,List.length_append];simp;omega)) (⟨(_,_),rfl,rfl⟩) fun x14 h12=> ?_))
  try simp only [num_vI (n:=x11.1) (by assumption)] at h12
  have hs2:=h12
  refine rdQ_mk 4 _ (rdQ_mk 4 _ (rdQ_mk 4 _ ?_))
  have hz:=(bne_eq_false_iff_eq.1 h6)
  have hc: ¬ (4<=t∨16<=a):=by (try simp (disch:=first | assumption | exact R4_zero | exact R4_one) only [rdx] at *);omega
  exact ⟨((x6.1,0),x13.1,x14.1,x14.2),⟨by assumption,by rw [num_vI r_n];exact (pJoin_ok hc hq ha hg hz h1_ h2_ hb_ h3_ hs1.1 hs1.2 hs2.1 hs2.2).symm⟩,rfl,rfl,rfl,rfl,rfl,trivial⟩
abbrev pool_Join_K (b bm bh bj:Nat) (m h:KV) (L:List Ent) (t a n:Int) (KK:((Int×Int)×BS)->Prop):Prop:=pool_Join_A b bm bh bj m h L t a n (fun za zh zv zu zp=>callQ Try.prog 14 za zh ((Int×Int)×BS) zv zu zp KK)
theorem pool_Join_m (b bm bh bj:Nat) (m h:KV) (L:List Ent) (t a n:Int) {KK:((Int×Int)×BS)->Prop} (kont: ∀zx:(Int×Int)×BS,R4 zx.1.1->(zx=pJoin (Try.ent249 bm) (Try.ent252 bh) ((m,h,L):BS) t a n)->KK zx) (r_n:R4 n:=by assumption) (wt:(Lit.int .u8 t).wf=true:=by first | assumption | decide) (wa:(Lit.int .u8 a).wf=true:=by first | assumption | decide) (hk:KOK Try.mk249 m:=by assumption) (hh:KOK Try.mk252 h:=by assumption) (hl:L.length<=1000000:=by omega):pool_Join_K b bm bh bj m h L t a n KK:=callQ_mk (pool_Join b bm bh bj m h L t a n r_n wt wa hk hh hl) (⟨_,pJoin_R Try.stk Try.numk252 (by first | assumption | exact KOK.nil) (by first | assumption | exact KOK.nil) (by first | exact R4_num _ | exact r_n),rfl⟩) fun zx hz=>by
  obtain ⟨rhz_11,hz⟩:=hz
  try simp only [num_vI (n:=n) r_n] at hz
  exact kont zx rhz_11 hz
noncomputable def pool_Leave_C:List Value->List Slot->Ctr:=fun vs hs=>⟨(Int×Int)×BS,fun zx=> .tuple #[vI zx.1.1, .int .i64 zx.1.2],fun zx=> [.blk (vblk (varg vs 1)) (.cells #[.pointer (some ⟨(vblk (scell (sarg hs 0) 0)),0,none⟩), .pointer (some ⟨(vblk (scell (sarg hs 0) 1)),0,none⟩), .slice none 0 0] 151 (0,0)),(mS Try.mk249 (vblk (scell (sarg hs 0) 0)) (snum (sarg hs 1) 1) zx.2.1),(mS Try.mk252 (vblk (scell (sarg hs 0) 1)) (snum (sarg hs 1) 1) zx.2.2.1),(jS Try.jk (snum (sarg hs 1) 1) zx.2.2.2)],fun zx=>R4 zx.1.1/\zx=pLeave (Try.ent249 (vblk (scell (sarg hs 0) 0))) (Try.ent252 (vblk (scell (sarg hs 0) 1))) (((skv (sarg hs 1)),(skv (sarg hs 2)),(sents (sarg hs 3))):BS) (ci (varg vs 2)) (ci (varg vs 3)) (num (varg vs 4))⟩
abbrev pool_Leave_Q (b bm bh bj:Nat) (m h:KV) (L:List Ent) (t a n:Int) (zv:Value) (zs0:Slot) (zs1:Slot) (zs2:Slot) (zs3:Slot):Prop:= ∃zx:(Int×Int)×BS,(R4 zx.1.1/\zx=pLeave (Try.ent249 bm) (Try.ent252 bh) ((m,h,L):BS) t a (num (vI n)))/\zv= .tuple #[vI zx.1.1, .int .i64 zx.1.2]/\zs0=bk b #[pp bm 0,pp bh 0, .slice none 0 0] 151/\zs1=(mS Try.mk249 bm bj zx.2.1)/\zs2=(mS Try.mk252 bh bj zx.2.2.1)/\zs3=(jS Try.jk bj zx.2.2.2)/\True
abbrev pool_Leave_A (b bm bh bj:Nat) (m h:KV) (L:List Ent) (t a n:Int) (zF:SF ((Int×Int)×BS)):Prop:=zF #[pp b 0, .int .u8 t, .int .u8 a,vI n] [bk b #[pp bm 0,pp bh 0, .slice none 0 0] 151,(mS Try.mk249 bm bj m),(mS Try.mk252 bh bj h),(jS Try.jk bj L)] (fun zx=> .tuple #[vI zx.1.1, .int .i64 zx.1.2]) (fun zx=> [bk b #[pp bm 0,pp bh 0, .slice none 0 0] 151,(mS Try.mk249 bm bj zx.2.1),(mS Try.mk252 bh bj zx.2.2.1),(jS Try.jk bj zx.2.2.2)]) (fun zx=>(R4 zx.1.1/\zx=pLeave (Try.ent249 bm) (Try.ent252 bh) ((m,h,L):BS) t a (num (vI n))))
set_option maxRecDepth 100000 in
set_option maxHeartbeats 1000000 in
theorem pool_Leave_vc (b bm bh bj:Nat) (m h:KV) (L:List Ent) (t a n:Int):pool_Leave_A b bm bh bj m h L t a n (fun za zh zv zu zp=>codeW Try.prog 101 none 2000 none (bodyOf Try.f16) (.reg [.sem [.nw 4], .sem [.nw 5],S0] (.caseP (fun s=>decide ((ci (s.fr 1))≥(4:Int))) (.reg [S0, .gen [] (Sx.one (.bool true)),S0, .no, .no,S0] (.condT (.reg [S0, .sem (wrs 4 5),S0] (.done)))) (.reg [S0, .gen [] (Sx.one (.bool false)),S0,S0,S0,S0] (.cond (.reg [S0, .sem (wrs 4 5),S0] (.done)) (.reg [S0,S0,S0, .callr [0,2] pool_Held_C, .sem (rds 4 4), .callr [] huge_Sub_C,S0,S0,S0, .sem [.nw 6], .sem (wrs 4 6),S0] (.reg [.sem (rds 4 4),S0, .eq (f_eq),S0] (.cond (.reg [.sem (rds 4 4), .sem (wrs 4 5),S0] (.done)) (.reg [S0,S0,S0] (.cond (.reg [S0, .sem (wrs 4 5),S0] (.done)) (.reg [S0,S0, .callr [0,1] pool_Of_C, .sem [.nw 7], .sem (wrs 16 7)] (.reg [.sem (rds 16 7), .callr [] pool_assets_C,S0, .sem (rds 4 7), .sem (rds 4 4), .callr [] share_Out_C,S0,S0,S0, .sem [.nw 8], .sem (wrs 4 8),S0] (.reg [S0,S0] (.cond (.reg [S0,S0, .sem (wrs 4 5),S0] (.done)) (.reg [S0, .sem (rds 4 7), .sem (rds 4 8), .callr [] huge_Sub_C,S0,S0,S0, .sem [.nw 9], .sem (wrs 4 9),S0] (.reg [S0,S0,S0] (.cond (.reg [S0, .sem (wrs 4 5),S0] (.done)) (.reg [.sem (rds 4 9),S0, .sem (rds 4 7), .callr [] huge_Cmp_C,S0,S0] (.cond (.reg [S0, .sem (wrs 4 5),S0] (.done)) (.reg [.sem (rds 4 9),S0, .sem (wrs 4 7)] (.reg [S0, .sem (rds 4 7), .sem (rds 4 4), .callr [] huge_Sub_C,S0,S0,S0,S0, .sem (wrs 4 7)] (.reg [S0,S0,S0, .sem [.rd 0],S0, .sem (rds 16 7), .callw [1,3] [1,3] stage_Set249_C] (.reg [S0,S0,S0, .sem [.rd 0],S0,S0,S0, .sem (rds 4 6), .callw [2,3] [2,3] stage_Set252_C] (.reg [.sem (rds 4 8), .sem (wrs 4 5),S0] (.done))))))))))))))))))))))))
    (init za zh) (finW Try.prog Try.f16 [.rd 5, .rd 5, .rd 5, .rd 5] [0,1,2,3] (X:=(Int×Int)×BS) zv zu zp))=
    (∀b1:Nat,∀b2:Nat,((decide (t≥(4:Int)))=true->(∃_:Unit,True/\Value.bool (decide (t≥(4:Int)))= .bool true)/\ ∀_:Unit,(True)->true= !false/\true= !false/\(true=true)/\rdQ 4 b2 (rdQ 4 b2 (pool_Leave_Q b bm bh bj m h L t a n (Value.tuple #[.agg #[uu 0,uu 0,uu 0,uu 0], .int .i64 1]) (bk b #[pp bm 0,pp bh 0, .slice none 0 0] 151) (mS Try.mk249 bm bj m) (mS Try.mk252 bh bj h) (jS Try.jk bj L))))/\((decide (t≥(4:Int)))=false->(∃_:Unit,True/\Value.bool (decide (t≥(4:Int)))= .bool false)/\ ∀_:Unit,(True)->false=false/\false=false/\((decide (a≥(16:Int)))=true->rdQ 4 b2 (rdQ 4 b2 (pool_Leave_Q b bm bh bj m h L t a n (Value.tuple #[.agg #[uu 0,uu 0,uu 0,uu 0], .int .i64 1]) (bk b #[pp bm 0,pp bh 0, .slice none 0 0] 151) (mS Try.mk249 bm bj m) (mS Try.mk252 bh bj h) (jS Try.jk bj L))))/\((decide (a≥(16:Int)))=false->pool_Held_K b bm bh bj h t a (fun x3=>rdQ 4 b1 (huge_Sub_K x3 n (fun x4=> ∀b5:Nat,rdQ 4 b5 (rdQ 4 b1 ((PureRun Try.prog (xBin .eql 25 (vI n) (vI 0)) (.bool (num (vI n)==num (vI 0))))/\((num (vI n)==num (vI 0))=true->rdQ 4 b1 (rdQ 4 b2 (rdQ 4 b2 (pool_Leave_Q b bm bh bj m h L t a n (Value.tuple #[vI n, .int .i64 3]) (bk b #[pp bm 0,pp bh 0, .slice none 0 0] 151) (mS Try.mk249 bm bj m) (mS Try.mk252 bh bj h) (jS Try.jk bj L)))))/\((num (vI n)==num (vI 0))=false->((x4.2 !=(0:Int))=true->rdQ 4 b2 (rdQ 4 b2 (pool_Leave_Q b bm bh bj m h L t a n (Value.tuple #[.agg #[uu 0,uu 0,uu 0,uu 0], .int .i64 8]) (bk b #[pp bm 0,pp bh 0, .slice none 0 0] 151) (mS Try.mk249 bm bj m) (mS Try.mk252 bh bj h) (jS Try.jk bj L))))/\((x4.2 !=(0:Int))=false->pool_Of_K b bm bh bj m t (fun x6=> ∀b7:Nat,rdQ 16 b7 (rdQ 16 b7 (pool_assets_K x6.1 x6.2.1 x6.2.2.1 x6.2.2.2 (fun x8=>rdQ 4 b7 (rdQ 4 b1 (share_Out_K x8 x6.2.2.2 n (fun x9=> ∀b10:Nat,rdQ 4 b10 (((x9.2 !=(0:Int))=true->rdQ 4 b2 (rdQ 4 b2 (pool_Leave_Q b bm bh bj m h L t a n (Value.tuple #[.agg #[uu 0,uu 0,uu 0,uu 0], .int .i64 x9.2]) (bk b #[pp bm 0,pp bh 0, .slice none 0 0] 151) (mS Try.mk249 bm bj m) (mS Try.mk252 bh bj h) (jS Try.jk bj L))))/\((x9.2 !=(0:Int))=false->rdQ 4 b7 (rdQ 4 b10 (huge_Sub_K x6.1 x9.1 (fun x11=> ∀b12:Nat,rdQ 4 b12 (((x11.2 !=(0:Int))=true->rdQ 4 b2 (rdQ 4 b2 (pool_Leave_Q b bm bh bj m h L t a n (Value.tuple #[.agg #[uu 0,uu 0,uu 0,uu 0], .int .i64 8]) (bk b #[pp bm 0,pp bh 0, .slice none 0 0] 151) (mS Try.mk249 bm bj m) (mS Try.mk252 bh bj h) (jS Try.jk bj L))))/\((x11.2 !=(0:Int))=false->rdQ 4 b12 (rdQ 4 b7 (huge_Cmp_K x11.1 x6.2.2.1 (fun _=>((decide ((hCmp (num (vI x11.1)) (num (vI x6.2.2.1)))<(0:Int)))=true->rdQ 4 b2 (rdQ 4 b2 (pool_Leave_Q b bm bh bj m h L t a n (Value.tuple #[.agg #[uu 0,uu 0,uu 0,uu 0], .int .i64 11]) (bk b #[pp bm 0,pp bh 0, .slice none 0 0] 151) (mS Try.mk249 bm bj m) (mS Try.mk252 bh bj h) (jS Try.jk bj L))))/\((decide ((hCmp (num (vI x11.1)) (num (vI x6.2.2.1)))<(0:Int)))=false->rdQ 4 b12 (rdQ 4 b7 (rdQ 4 b7 (rdQ 4 b1 (huge_Sub_K x6.2.2.2 n (fun x13=>rdQ 4 b7 (rdQ 1 b (rdQ 16 b7 (callQ Try.prog 81 #[pp bm 0, .int .u8 t,stV (x11.1,x6.2.1,x6.2.2.1,x13.1)] [(mS Try.mk249 bm bj m),(jS Try.jk bj L)] (KV×List Ent) (fun zx=> .tuple #[]) (fun zx=> [(mS Try.mk249 bm bj zx.1),(jS Try.jk bj zx.2)]) (fun zx=>zx.1=mset m (Value.int .u8 t) (stV (x11.1,x6.2.1,x6.2.2.1,x13.1))/\zx.2=L++ [(Try.ent249 bm m (Value.int .u8 t))]) (fun x14=>rdQ 1 b (rdQ 4 b5 (callQ Try.prog 82 #[pp bh 0, .agg #[.int .u8 t, .int .u8 a],vI x4.1] [(mS Try.mk252 bh bj h),(jS Try.jk bj x14.2)] (KV×List Ent) (fun zx=> .tuple #[]) (fun zx=> [(mS Try.mk252 bh bj zx.1),(jS Try.jk bj zx.2)]) (fun zx=>zx.1=mset h (Value.agg #[.int .u8 t, .int .u8 a]) (vI x4.1)/\zx.2=x14.2++ [(Try.ent252 bh h (Value.agg #[.int .u8 t, .int .u8 a]))]) (fun x15=>rdQ 4 b10 (rdQ 4 b2 (rdQ 4 b2 (pool_Leave_Q b bm bh bj m h L t a n (Value.tuple #[vI x9.1, .int .i64 0]) (bk b #[pp bm 0,pp bh 0, .slice none 0 0] 151) (mS Try.mk249 bm bj x14.1) (mS Try.mk252 bh bj x15.1) (jS Try.jk bj x15.2)))))))))))))))))))))))))))))))))))))))))))):=by kernel_rfl
set_option maxRecDepth 100000 in
set_option maxHeartbeats 1000000 in
theorem pool_Leave (b bm bh bj:Nat) (m h:KV) (L:List Ent) (t a n:Int) (r_n:R4 n) (wt:(Lit.int .u8 t).wf=true) (wa:(Lit.int .u8 a).wf=true) (hk:KOK Try.mk249 m) (hh:KOK Try.mk252 h) (hl:L.length<=1000000):pool_Leave_A b bm bh bj m h L t a n (fun za zh zv zu zp=>CallT Try.prog 16 za zh ((Int×Int)×BS) zv zu zp):=by
  refine call_of (c:=bodyOf Try.f16) (n:=101) (fn:=Try.f16) Try.mixed Try.func16 (by kernel_rfl) (by kernel_rfl) (by kernel_rfl) 2000 _ [.rd 5, .rd 5, .rd 5, .rd 5] [0,1,2,3] rfl rfl (Eq.mpr (pool_Leave_vc b bm bh bj m h L t a n) ?_)
  intro b1
  intro b2
  refine ⟨fun h1=> ?_,fun h1=> ?_⟩
  · exact ⟨⟨(),trivial,congrArg Value.bool h1⟩,fun _=>fun _=>⟨rfl,rfl,⟨rfl,rdQ_mk 4 _ (rdQ_mk 4 _ ⟨((0,1),m,h,L),⟨R4_zero,by rw [num_vI r_n];exact (pLeave_arg (by (try simp (disch:=first | assumption | exact R4_zero | exact R4_one) only [rdx] at *);omega)).symm⟩,by rw [vI_zero],rfl,rfl,rfl,rfl,trivial⟩)⟩⟩⟩
  refine ⟨⟨(),trivial,congrArg Value.bool h1⟩,fun _=>fun _=>⟨rfl,rfl,⟨fun h2=> ?_,fun h2=> ?_⟩⟩⟩
  · exact rdQ_mk 4 _ (rdQ_mk 4 _ ⟨((0,1),m,h,L),⟨R4_zero,by rw [num_vI r_n];exact (pLeave_arg (by (try simp (disch:=first | assumption | exact R4_zero | exact R4_one) only [rdx] at *);omega)).symm⟩,by rw [vI_zero],rfl,rfl,rfl,rfl,trivial⟩)
  refine pool_Held_m b bm bh bj h t a (fun x3 rh3_ h3=> ?_)
  have hb_:=h3
  refine rdQ_mk 4 _ (huge_Sub_m x3 n (fun x4 rh4_1 h4=> ?_))
  have cx:=hSub_cases h4
  intro b5
  refine rdQ_mk 4 _ (rdQ_mk 4 _ ⟨Try.xeq25 n 0,⟨fun h5=> ?_,fun h5=> ?_⟩⟩)
  · refine rdQ_mk 4 _ (rdQ_mk 4 _ (rdQ_mk 4 _ ?_))
    have hc: ¬ (4<=t∨16<=a):=by (try simp (disch:=first | assumption | exact R4_zero | exact R4_one) only [rdx] at *);omega
    have hn0:n=0:=by (try simp (disch:=first | assumption | exact R4_zero | exact R4_one) only [rdx] at *);omega
    exact ⟨((n,3),m,h,L),⟨r_n,by rw [num_vI r_n,pLeave_zero hc hn0,hn0]⟩,rfl,rfl,rfl,rfl,rfl,trivial⟩
  refine ⟨fun h6=> ?_,fun h6=> ?_⟩
  · refine rdQ_mk 4 _ (rdQ_mk 4 _ ?_)
    have hc: ¬ (4<=t∨16<=a):=by (try simp (disch:=first | assumption | exact R4_zero | exact R4_one) only [rdx] at *);omega
    have hn0: ¬n=0:=by (try simp (disch:=first | assumption | exact R4_zero | exact R4_one) only [rdx] at *);omega
    have hlt:x3<n:=by (try simp (disch:=first | assumption | exact R4_zero | exact R4_one) only [rdx] at *);omega
    exact ⟨((0,8),m,h,L),⟨R4_zero,by rw [num_vI r_n];exact (pLeave_few hc hn0 hb_ hlt).symm⟩,by rw [vI_zero],rfl,rfl,rfl,rfl,trivial⟩
  refine pool_Of_m b bm bh bj m t (fun x6 rh7_ h7=> ?_)
  have rah7:=rh7_.a;have rbh7:=rh7_.b;have rch7:=rh7_.c;have rdh7:=rh7_.d
  have hq:=h7
  intro b7
  refine rdQ_mk 16 _ (rdQ_mk 16 _ (pool_assets_m x6.1 x6.2.1 x6.2.2.1 x6.2.2.2 (fun x8 rh8_ h8=> ?_)))
  have ha:=h8
  refine rdQ_mk 4 _ (rdQ_mk 4 _ (share_Out_m x8 x6.2.2.2 n (fun x9 rh9_1 h9=> ?_)))
  have hg:=h9
  intro b10
  refine rdQ_mk 4 _ ⟨fun h10=> ?_,fun h10=> ?_⟩
  · refine rdQ_mk 4 _ (rdQ_mk 4 _ ?_)
    have hc: ¬ (4<=t∨16<=a):=by (try simp (disch:=first | assumption | exact R4_zero | exact R4_one) only [rdx] at *);omega
    have hn0: ¬n=0:=by (try simp (disch:=first | assumption | exact R4_zero | exact R4_one) only [rdx] at *);omega
    have hlt: ¬x3<n:=by (try simp (disch:=first | assumption | exact R4_zero | exact R4_one) only [rdx] at *);omega
    have hz:=(bne_iff_ne.1 h10)
    exact ⟨((0,x9.2),m,h,L),⟨R4_zero,by rw [num_vI r_n];exact (pLeave_no hc hn0 hb_ hlt hq ha hg hz).symm⟩,by rw [vI_zero],rfl,rfl,rfl,rfl,trivial⟩
  refine rdQ_mk 4 _ (rdQ_mk 4 _ (huge_Sub_m x6.1 x9.1 (fun x11 rh11_1 h11=> ?_)))
  have cl:=hSub_cases h11
  intro b12
  refine rdQ_mk 4 _ ⟨fun h12=> ?_,fun h12=> ?_⟩
  · refine rdQ_mk 4 _ (rdQ_mk 4 _ ?_)
    have hc: ¬ (4<=t∨16<=a):=by (try simp (disch:=first | assumption | exact R4_zero | exact R4_one) only [rdx] at *);omega
    have hn0: ¬n=0:=by (try simp (disch:=first | assumption | exact R4_zero | exact R4_one) only [rdx] at *);omega
    have hlt: ¬x3<n:=by (try simp (disch:=first | assumption | exact R4_zero | exact R4_one) only [rdx] at *);omega
    have hz:=(bne_eq_false_iff_eq.1 h10)
    have hca:x6.1<x9.1:=by (try simp (disch:=first | assumption | exact R4_zero | exact R4_one) only [rdx] at *);omega
    exact ⟨((0,8),m,h,L),⟨R4_zero,by rw [num_vI r_n];exact (pLeave_cash hc hn0 hb_ hlt hq ha hg hz hca).symm⟩,by rw [vI_zero],rfl,rfl,rfl,rfl,trivial⟩
  refine rdQ_mk 4 _ (rdQ_mk 4 _ (huge_Cmp_m x11.1 x6.2.2.1 ⟨fun h13=> ?_,fun h13=> ?_⟩))
  · refine rdQ_mk 4 _ (rdQ_mk 4 _ ?_)
    have hc: ¬ (4<=t∨16<=a):=by (try simp (disch:=first | assumption | exact R4_zero | exact R4_one) only [rdx] at *);omega
    have hn0: ¬n=0:=by (try simp (disch:=first | assumption | exact R4_zero | exact R4_one) only [rdx] at *);omega
    have hlt: ¬x3<n:=by (try simp (disch:=first | assumption | exact R4_zero | exact R4_one) only [rdx] at *);omega
    have hz:=(bne_eq_false_iff_eq.1 h10)
    have hca: ¬x6.1<x9.1:=by (try simp (disch:=first | assumption | exact R4_zero | exact R4_one) only [rdx] at *);omega
    have hre:x6.1 - x9.1<x6.2.2.1:=by (try simp (disch:=first | assumption | exact R4_zero | exact R4_one) only [rdx] at *);omega
    exact ⟨((0,11),m,h,L),⟨R4_zero,by rw [num_vI r_n];exact (pLeave_res hc hn0 hb_ hlt hq ha hg hz hca hre).symm⟩,by rw [vI_zero],rfl,rfl,rfl,rfl,trivial⟩
  refine rdQ_mk 4 _ (rdQ_mk 4 _ (rdQ_mk 4 _ (rdQ_mk 4 _ (huge_Sub_m x6.2.2.2 n (fun x13 rh14_1 h14=> ?_)))))
  have h2_:=h14
  refine rdQ_mk 4 _ (rdQ_mk 1 _ (rdQ_mk 16 _ (callQ_mk (stage_Set249 bm bj m L t x11.1 x6.2.1 x6.2.2.1 x13.1 (by assumption) (by assumption) (by assumption) (by assumption) (by omega)) (⟨(_,_),rfl,rfl⟩) fun x14 h15=> ?_)))
  try simp only [num_vI (n:=x11.1) (by assumption),num_vI (n:=x6.2.1) (by assumption),num_vI (n:=x6.2.2.1) (by assumption),num_vI (n:=x13.1) (by assumption)] at h15
  have hs1:=h15
  refine rdQ_mk 1 _ (rdQ_mk 4 _ (callQ_mk (stage_Set252 bh bj h x14.2 t a x4.1 (by assumption) (by rw [hs1.2,List.length_append];simp;omega)) (⟨(_,_),rfl,rfl⟩) fun x15 h16=> ?_))
  try simp only [num_vI (n:=x4.1) (by assumption)] at h16
  have hs2:=h16
  refine rdQ_mk 4 _ (rdQ_mk 4 _ (rdQ_mk 4 _ ?_))
  have hc: ¬ (4<=t∨16<=a):=by (try simp (disch:=first | assumption | exact R4_zero | exact R4_one) only [rdx] at *);omega
  have hn0: ¬n=0:=by (try simp (disch:=first | assumption | exact R4_zero | exact R4_one) only [rdx] at *);omega
  have hlt: ¬x3<n:=by (try simp (disch:=first | assumption | exact R4_zero | exact R4_one) only [rdx] at *);omega
  have hz:=(bne_eq_false_iff_eq.1 h10)
  have hca: ¬x6.1<x9.1:=by (try simp (disch:=first | assumption | exact R4_zero | exact R4_one) only [rdx] at *);omega
  have hre: ¬x6.1 - x9.1<x6.2.2.1:=by (try simp (disch:=first | assumption | exact R4_zero | exact R4_one) only [rdx] at *);omega
  have hc1:x11.1=x6.1 - x9.1:=by (try simp (disch:=first | assumption | exact R4_zero | exact R4_one) only [rdx] at *);omega
  have hy1:x4.1=x3 - n:=by (try simp (disch:=first | assumption | exact R4_zero | exact R4_one) only [rdx] at *);omega
  exact ⟨((x9.1,0),x14.1,x15.1,x15.2),⟨by assumption,by rw [num_vI r_n];exact (pLeave_ok hc hn0 hb_ hlt hq ha hg hz hca hre hc1 h2_ hy1 hs1.1 hs1.2 hs2.1 hs2.2).symm⟩,rfl,rfl,rfl,rfl,rfl,trivial⟩
abbrev pool_Leave_K (b bm bh bj:Nat) (m h:KV) (L:List Ent) (t a n:Int) (KK:((Int×Int)×BS)->Prop):Prop:=pool_Leave_A b bm bh bj m h L t a n (fun za zh zv zu zp=>callQ Try.prog 16 za zh ((Int×Int)×BS) zv zu zp KK)
theorem pool_Leave_m (b bm bh bj:Nat) (m h:KV) (L:List Ent) (t a n:Int) {KK:((Int×Int)×BS)->Prop} (kont: ∀zx:(Int×Int)×BS,R4 zx.1.1->(zx=pLeave (Try.ent249 bm) (Try.ent252 bh) ((m,h,L):BS) t a n)->KK zx) (r_n:R4 n:=by assumption) (wt:(Lit.int .u8 t).wf=true:=by first | assumption | decide) (wa:(Lit.int .u8 a).wf=true:=by first | assumption | decide) (hk:KOK Try.mk249 m:=by assumption) (hh:KOK Try.mk252 h:=by assumption) (hl:L.length<=1000000:=by omega):pool_Leave_K b bm bh bj m h L t a n KK:=callQ_mk (pool_Leave b bm bh bj m h L t a n r_n wt wa hk hh hl) (⟨_,pLeave_R Try.stk Try.numk252 (by first | assumption | exact KOK.nil) (by first | assumption | exact KOK.nil) (by first | exact R4_num _ | exact r_n),rfl⟩) fun zx hz=>by
  obtain ⟨rhz_11,hz⟩:=hz
  try simp only [num_vI (n:=n) r_n] at hz
  exact kont zx rhz_11 hz
noncomputable def pool_take0_C:List Value->List Slot->Ctr:=fun vs hs=>⟨Int×Int,fun zx=> .int .i64 zx.1,fun zx=> [.blk (vblk (varg vs 1)) (.cells #[uu (lim zx.2 0),uu (lim zx.2 1),uu (lim zx.2 2),uu (lim zx.2 3),uu (lim (num (.agg #[cell (.agg (scells (sarg hs 0))) 4,cell (.agg (scells (sarg hs 0))) 5,cell (.agg (scells (sarg hs 0))) 6,cell (.agg (scells (sarg hs 0))) 7])) 0),uu (lim (num (.agg #[cell (.agg (scells (sarg hs 0))) 4,cell (.agg (scells (sarg hs 0))) 5,cell (.agg (scells (sarg hs 0))) 6,cell (.agg (scells (sarg hs 0))) 7])) 1),uu (lim (num (.agg #[cell (.agg (scells (sarg hs 0))) 4,cell (.agg (scells (sarg hs 0))) 5,cell (.agg (scells (sarg hs 0))) 6,cell (.agg (scells (sarg hs 0))) 7])) 2),uu (lim (num (.agg #[cell (.agg (scells (sarg hs 0))) 4,cell (.agg (scells (sarg hs 0))) 5,cell (.agg (scells (sarg hs 0))) 6,cell (.agg (scells (sarg hs 0))) 7])) 3),uu (lim (num (.agg #[cell (.agg (scells (sarg hs 0))) 8,cell (.agg (scells (sarg hs 0))) 9,cell (.agg (scells (sarg hs 0))) 10,cell (.agg (scells (sarg hs 0))) 11])) 0),uu (lim (num (.agg #[cell (.agg (scells (sarg hs 0))) 8,cell (.agg (scells (sarg hs 0))) 9,cell (.agg (scells (sarg hs 0))) 10,cell (.agg (scells (sarg hs 0))) 11])) 1),uu (lim (num (.agg #[cell (.agg (scells (sarg hs 0))) 8,cell (.agg (scells (sarg hs 0))) 9,cell (.agg (scells (sarg hs 0))) 10,cell (.agg (scells (sarg hs 0))) 11])) 2),uu (lim (num (.agg #[cell (.agg (scells (sarg hs 0))) 8,cell (.agg (scells (sarg hs 0))) 9,cell (.agg (scells (sarg hs 0))) 10,cell (.agg (scells (sarg hs 0))) 11])) 3),uu (lim (num (.agg #[cell (.agg (scells (sarg hs 0))) 12,cell (.agg (scells (sarg hs 0))) 13,cell (.agg (scells (sarg hs 0))) 14,cell (.agg (scells (sarg hs 0))) 15])) 0),uu (lim (num (.agg #[cell (.agg (scells (sarg hs 0))) 12,cell (.agg (scells (sarg hs 0))) 13,cell (.agg (scells (sarg hs 0))) 14,cell (.agg (scells (sarg hs 0))) 15])) 1),uu (lim (num (.agg #[cell (.agg (scells (sarg hs 0))) 12,cell (.agg (scells (sarg hs 0))) 13,cell (.agg (scells (sarg hs 0))) 14,cell (.agg (scells (sarg hs 0))) 15])) 2),uu (lim (num (.agg #[cell (.agg (scells (sarg hs 0))) 12,cell (.agg (scells (sarg hs 0))) 13,cell (.agg (scells (sarg hs 0))) 14,cell (.agg (scells (sarg hs 0))) 15])) 3)] 51 (0,0))],fun zx=>R4 zx.2/\zx=cTake (num (.agg #[cell (.agg (scells (sarg hs 0))) 0,cell (.agg (scells (sarg hs 0))) 1,cell (.agg (scells (sarg hs 0))) 2,cell (.agg (scells (sarg hs 0))) 3])) (num (varg vs 2))⟩
abbrev pool_take0_Q (sb:Nat) (c0 c1 c2 c3 n:Int) (zv:Value) (zs0:Slot):Prop:= ∃zx:Int×Int,(R4 zx.2/\zx=cTake (num (vI c0)) (num (vI n)))/\zv= .int .i64 zx.1/\zs0=bk sb #[uu (lim zx.2 0),uu (lim zx.2 1),uu (lim zx.2 2),uu (lim zx.2 3),uu (lim (num (vI c1)) 0),uu (lim (num (vI c1)) 1),uu (lim (num (vI c1)) 2),uu (lim (num (vI c1)) 3),uu (lim (num (vI c2)) 0),uu (lim (num (vI c2)) 1),uu (lim (num (vI c2)) 2),uu (lim (num (vI c2)) 3),uu (lim (num (vI c3)) 0),uu (lim (num (vI c3)) 1),uu (lim (num (vI c3)) 2),uu (lim (num (vI c3)) 3)] 51/\True
abbrev pool_take0_A (sb:Nat) (c0 c1 c2 c3 n:Int) (zF:SF (Int×Int)):Prop:=zF #[pp sb 0,vI n] [bk sb #[uu (lim c0 0),uu (lim c0 1),uu (lim c0 2),uu (lim c0 3),uu (lim c1 0),uu (lim c1 1),uu (lim c1 2),uu (lim c1 3),uu (lim c2 0),uu (lim c2 1),uu (lim c2 2),uu (lim c2 3),uu (lim c3 0),uu (lim c3 1),uu (lim c3 2),uu (lim c3 3)] 51] (fun zx=> .int .i64 zx.1) (fun zx=> [bk sb #[uu (lim zx.2 0),uu (lim zx.2 1),uu (lim zx.2 2),uu (lim zx.2 3),uu (lim (num (vI c1)) 0),uu (lim (num (vI c1)) 1),uu (lim (num (vI c1)) 2),uu (lim (num (vI c1)) 3),uu (lim (num (vI c2)) 0),uu (lim (num (vI c2)) 1),uu (lim (num (vI c2)) 2),uu (lim (num (vI c2)) 3),uu (lim (num (vI c3)) 0),uu (lim (num (vI c3)) 1),uu (lim (num (vI c3)) 2),uu (lim (num (vI c3)) 3)] 51]) (fun zx=>(R4 zx.2/\zx=cTake (num (vI c0)) (num (vI n))))
set_option maxRecDepth 100000 in
theorem pool_take0_vc (sb:Nat) (c0 c1 c2 c3 n:Int):pool_take0_A sb c0 c1 c2 c3 n (fun za zh zv zu zp=>codeW Try.prog 20 none 2000 none (bodyOf Try.f149) (.reg [.sem [.nw 1],S0] (.reg [S0,S0, .sem (rds 4 0), .sem (rds 4 1), .callr [] huge_Sub_C,S0,S0,S0, .sem [.nw 2], .sem (wrs 4 2),S0] (.reg [S0,S0] (.cond (.reg [S0] (.done)) (.reg [S0, .sem (rds 4 2),S0, .sem (wrs 4 0)] (.reg [S0] (.done)))))))
    (init za zh) (finW Try.prog Try.f149 [] [0] (X:=Int×Int) zv zu zp))=
    (∀b1:Nat,rdQ 4 sb (rdQ 4 b1 (huge_Sub_K c0 n (fun x2=> ∀b3:Nat,rdQ 4 b3 (((x2.2 !=(0:Int))=true->pool_take0_Q sb c0 c1 c2 c3 n (Value.int .i64 8) (bk sb #[uu (lim c0 0),uu (lim c0 1),uu (lim c0 2),uu (lim c0 3),uu (lim c1 0),uu (lim c1 1),uu (lim c1 2),uu (lim c1 3),uu (lim c2 0),uu (lim c2 1),uu (lim c2 2),uu (lim c2 3),uu (lim c3 0),uu (lim c3 1),uu (lim c3 2),uu (lim c3 3)] 51))/\((x2.2 !=(0:Int))=false->rdQ 4 b3 (rdQ 4 sb (pool_take0_Q sb c0 c1 c2 c3 n (Value.int .i64 0) (bk sb #[uu (lim x2.1 0),uu (lim x2.1 1),uu (lim x2.1 2),uu (lim x2.1 3),uu (lim c1 0),uu (lim c1 1),uu (lim c1 2),uu (lim c1 3),uu (lim c2 0),uu (lim c2 1),uu (lim c2 2),uu (lim c2 3),uu (lim c3 0),uu (lim c3 1),uu (lim c3 2),uu (lim c3 3)] 51))))))))):=by kernel_rfl
set_option maxRecDepth 100000 in
theorem pool_take0 (sb:Nat) (c0 c1 c2 c3 n:Int) (r_c0:R4 c0) (r_c1:R4 c1) (r_c2:R4 c2) (r_c3:R4 c3) (r_n:R4 n):pool_take0_A sb c0 c1 c2 c3 n (fun za zh zv zu zp=>CallT Try.prog 149 za zh (Int×Int) zv zu zp):=by
  refine call_of (c:=bodyOf Try.f149) (n:=20) (fn:=Try.f149) Try.mixed Try.func149 (by kernel_rfl) (by kernel_rfl) (by kernel_rfl) 2000 _ [] [0] rfl rfl (Eq.mpr (pool_take0_vc sb c0 c1 c2 c3 n) ?_)
  intro b1
  refine rdQ_mk 4 _ (rdQ_mk 4 _ (huge_Sub_m c0 n (fun x2 rh1_1 h1=> ?_)))
  have hx:=h1
  intro b3
  refine rdQ_mk 4 _ ⟨fun h2=> ?_,fun h2=> ?_⟩
  · have hz:=(bne_iff_ne.1 h2)
    exact ⟨(8,c0),⟨r_c0,by rw [num_vI r_c0,num_vI r_n];exact (cTake_no hx hz).symm⟩,rfl,(by simp only [num_vI r_c0,num_vI r_c1,num_vI r_c2,num_vI r_c3]),trivial⟩
  refine rdQ_mk 4 _ (rdQ_mk 4 _ ?_)
  have hz:=(bne_eq_false_iff_eq.1 h2)
  exact ⟨(0,x2.1),⟨by assumption,by rw [num_vI r_c0,num_vI r_n];exact (cTake_ok hx hz).symm⟩,rfl,(by simp only [num_vI r_c0,num_vI r_c1,num_vI r_c2,num_vI r_c3]),trivial⟩
abbrev pool_take0_K (sb:Nat) (c0 c1 c2 c3 n:Int) (KK:(Int×Int)->Prop):Prop:=pool_take0_A sb c0 c1 c2 c3 n (fun za zh zv zu zp=>callQ Try.prog 149 za zh (Int×Int) zv zu zp KK)
theorem pool_take0_m (sb:Nat) (c0 c1 c2 c3 n:Int) {KK:(Int×Int)->Prop} (kont: ∀zx:Int×Int,R4 zx.2->(zx=cTake c0 n)->KK zx) (r_c0:R4 c0:=by assumption) (r_c1:R4 c1:=by assumption) (r_c2:R4 c2:=by assumption) (r_c3:R4 c3:=by assumption) (r_n:R4 n:=by assumption):pool_take0_K sb c0 c1 c2 c3 n KK:=callQ_mk (pool_take0 sb c0 c1 c2 c3 n r_c0 r_c1 r_c2 r_c3 r_n) (⟨_,cTake_R (by first | exact R4_num _ | exact r_c0) (by first | exact R4_num _ | exact r_n),rfl⟩) fun zx hz=>by
  obtain ⟨rhz_2,hz⟩:=hz
  try simp only [num_vI (n:=c0) r_c0,num_vI (n:=c1) r_c1,num_vI (n:=c2) r_c2,num_vI (n:=c3) r_c3,num_vI (n:=n) r_n] at hz
  exact kont zx rhz_2 hz
noncomputable def pool_take1_C:List Value->List Slot->Ctr:=fun vs hs=>⟨Int×Int,fun zx=> .int .i64 zx.1,fun zx=> [.blk (vblk (varg vs 1)) (.cells #[uu (lim (num (.agg #[cell (.agg (scells (sarg hs 0))) 0,cell (.agg (scells (sarg hs 0))) 1,cell (.agg (scells (sarg hs 0))) 2,cell (.agg (scells (sarg hs 0))) 3])) 0),uu (lim (num (.agg #[cell (.agg (scells (sarg hs 0))) 0,cell (.agg (scells (sarg hs 0))) 1,cell (.agg (scells (sarg hs 0))) 2,cell (.agg (scells (sarg hs 0))) 3])) 1),uu (lim (num (.agg #[cell (.agg (scells (sarg hs 0))) 0,cell (.agg (scells (sarg hs 0))) 1,cell (.agg (scells (sarg hs 0))) 2,cell (.agg (scells (sarg hs 0))) 3])) 2),uu (lim (num (.agg #[cell (.agg (scells (sarg hs 0))) 0,cell (.agg (scells (sarg hs 0))) 1,cell (.agg (scells (sarg hs 0))) 2,cell (.agg (scells (sarg hs 0))) 3])) 3),uu (lim zx.2 0),uu (lim zx.2 1),uu (lim zx.2 2),uu (lim zx.2 3),uu (lim (num (.agg #[cell (.agg (scells (sarg hs 0))) 8,cell (.agg (scells (sarg hs 0))) 9,cell (.agg (scells (sarg hs 0))) 10,cell (.agg (scells (sarg hs 0))) 11])) 0),uu (lim (num (.agg #[cell (.agg (scells (sarg hs 0))) 8,cell (.agg (scells (sarg hs 0))) 9,cell (.agg (scells (sarg hs 0))) 10,cell (.agg (scells (sarg hs 0))) 11])) 1),uu (lim (num (.agg #[cell (.agg (scells (sarg hs 0))) 8,cell (.agg (scells (sarg hs 0))) 9,cell (.agg (scells (sarg hs 0))) 10,cell (.agg (scells (sarg hs 0))) 11])) 2),uu (lim (num (.agg #[cell (.agg (scells (sarg hs 0))) 8,cell (.agg (scells (sarg hs 0))) 9,cell (.agg (scells (sarg hs 0))) 10,cell (.agg (scells (sarg hs 0))) 11])) 3),uu (lim (num (.agg #[cell (.agg (scells (sarg hs 0))) 12,cell (.agg (scells (sarg hs 0))) 13,cell (.agg (scells (sarg hs 0))) 14,cell (.agg (scells (sarg hs 0))) 15])) 0),uu (lim (num (.agg #[cell (.agg (scells (sarg hs 0))) 12,cell (.agg (scells (sarg hs 0))) 13,cell (.agg (scells (sarg hs 0))) 14,cell (.agg (scells (sarg hs 0))) 15])) 1),uu (lim (num (.agg #[cell (.agg (scells (sarg hs 0))) 12,cell (.agg (scells (sarg hs 0))) 13,cell (.agg (scells (sarg hs 0))) 14,cell (.agg (scells (sarg hs 0))) 15])) 2),uu (lim (num (.agg #[cell (.agg (scells (sarg hs 0))) 12,cell (.agg (scells (sarg hs 0))) 13,cell (.agg (scells (sarg hs 0))) 14,cell (.agg (scells (sarg hs 0))) 15])) 3)] 51 (0,0))],fun zx=>R4 zx.2/\zx=cTake (num (.agg #[cell (.agg (scells (sarg hs 0))) 4,cell (.agg (scells (sarg hs 0))) 5,cell (.agg (scells (sarg hs 0))) 6,cell (.agg (scells (sarg hs 0))) 7])) (num (varg vs 2))⟩
abbrev pool_take1_Q (sb:Nat) (c0 c1 c2 c3 n:Int) (zv:Value) (zs0:Slot):Prop:= ∃zx:Int×Int,(R4 zx.2/\zx=cTake (num (vI c1)) (num (vI n)))/\zv= .int .i64 zx.1/\zs0=bk sb #[uu (lim (num (vI c0)) 0),uu (lim (num (vI c0)) 1),uu (lim (num (vI c0)) 2),uu (lim (num (vI c0)) 3),uu (lim zx.2 0),uu (lim zx.2 1),uu (lim zx.2 2),uu (lim zx.2 3),uu (lim (num (vI c2)) 0),uu (lim (num (vI c2)) 1),uu (lim (num (vI c2)) 2),uu (lim (num (vI c2)) 3),uu (lim (num (vI c3)) 0),uu (lim (num (vI c3)) 1),uu (lim (num (vI c3)) 2),uu (lim (num (vI c3)) 3)] 51/\True
abbrev pool_take1_A (sb:Nat) (c0 c1 c2 c3 n:Int) (zF:SF (Int×Int)):Prop:=zF #[pp sb 4,vI n] [bk sb #[uu (lim c0 0),uu (lim c0 1),uu (lim c0 2),uu (lim c0 3),uu (lim c1 0),uu (lim c1 1),uu (lim c1 2),uu (lim c1 3),uu (lim c2 0),uu (lim c2 1),uu (lim c2 2),uu (lim c2 3),uu (lim c3 0),uu (lim c3 1),uu (lim c3 2),uu (lim c3 3)] 51] (fun zx=> .int .i64 zx.1) (fun zx=> [bk sb #[uu (lim (num (vI c0)) 0),uu (lim (num (vI c0)) 1),uu (lim (num (vI c0)) 2),uu (lim (num (vI c0)) 3),uu (lim zx.2 0),uu (lim zx.2 1),uu (lim zx.2 2),uu (lim zx.2 3),uu (lim (num (vI c2)) 0),uu (lim (num (vI c2)) 1),uu (lim (num (vI c2)) 2),uu (lim (num (vI c2)) 3),uu (lim (num (vI c3)) 0),uu (lim (num (vI c3)) 1),uu (lim (num (vI c3)) 2),uu (lim (num (vI c3)) 3)] 51]) (fun zx=>(R4 zx.2/\zx=cTake (num (vI c1)) (num (vI n))))
set_option maxRecDepth 100000 in
theorem pool_take1_vc (sb:Nat) (c0 c1 c2 c3 n:Int):pool_take1_A sb c0 c1 c2 c3 n (fun za zh zv zu zp=>codeW Try.prog 20 none 2000 none (bodyOf Try.f149) (.reg [.sem [.nw 1],S0] (.reg [S0,S0, .sem (rds 4 0), .sem (rds 4 1), .callr [] huge_Sub_C,S0,S0,S0, .sem [.nw 2], .sem (wrs 4 2),S0] (.reg [S0,S0] (.cond (.reg [S0] (.done)) (.reg [S0, .sem (rds 4 2),S0, .sem (wrs 4 0)] (.reg [S0] (.done)))))))
    (init za zh) (finW Try.prog Try.f149 [] [0] (X:=Int×Int) zv zu zp))=
    (∀b1:Nat,rdQ 4 sb (rdQ 4 b1 (huge_Sub_K c1 n (fun x2=> ∀b3:Nat,rdQ 4 b3 (((x2.2 !=(0:Int))=true->pool_take1_Q sb c0 c1 c2 c3 n (Value.int .i64 8) (bk sb #[uu (lim c0 0),uu (lim c0 1),uu (lim c0 2),uu (lim c0 3),uu (lim c1 0),uu (lim c1 1),uu (lim c1 2),uu (lim c1 3),uu (lim c2 0),uu (lim c2 1),uu (lim c2 2),uu (lim c2 3),uu (lim c3 0),uu (lim c3 1),uu (lim c3 2),uu (lim c3 3)] 51))/\((x2.2 !=(0:Int))=false->rdQ 4 b3 (rdQ 4 sb (pool_take1_Q sb c0 c1 c2 c3 n (Value.int .i64 0) (bk sb #[uu (lim c0 0),uu (lim c0 1),uu (lim c0 2),uu (lim c0 3),uu (lim x2.1 0),uu (lim x2.1 1),uu (lim x2.1 2),uu (lim x2.1 3),uu (lim c2 0),uu (lim c2 1),uu (lim c2 2),uu (lim c2 3),uu (lim c3 0),uu (lim c3 1),uu (lim c3 2),uu (lim c3 3)] 51))))))))):=by kernel_rfl
set_option maxRecDepth 100000 in
theorem pool_take1 (sb:Nat) (c0 c1 c2 c3 n:Int) (r_c0:R4 c0) (r_c1:R4 c1) (r_c2:R4 c2) (r_c3:R4 c3) (r_n:R4 n):pool_take1_A sb c0 c1 c2 c3 n (fun za zh zv zu zp=>CallT Try.prog 149 za zh (Int×Int) zv zu zp):=by
  refine call_of (c:=bodyOf Try.f149) (n:=20) (fn:=Try.f149) Try.mixed Try.func149 (by kernel_rfl) (by kernel_rfl) (by kernel_rfl) 2000 _ [] [0] rfl rfl (Eq.mpr (pool_take1_vc sb c0 c1 c2 c3 n) ?_)
  intro b1
  refine rdQ_mk 4 _ (rdQ_mk 4 _ (huge_Sub_m c1 n (fun x2 rh1_1 h1=> ?_)))
  have hx:=h1
  intro b3
  refine rdQ_mk 4 _ ⟨fun h2=> ?_,fun h2=> ?_⟩
  · have hz:=(bne_iff_ne.1 h2)
    exact ⟨(8,c1),⟨r_c1,by rw [num_vI r_c1,num_vI r_n];exact (cTake_no hx hz).symm⟩,rfl,(by simp only [num_vI r_c0,num_vI r_c1,num_vI r_c2,num_vI r_c3]),trivial⟩
  refine rdQ_mk 4 _ (rdQ_mk 4 _ ?_)
  have hz:=(bne_eq_false_iff_eq.1 h2)
  exact ⟨(0,x2.1),⟨by assumption,by rw [num_vI r_c1,num_vI r_n];exact (cTake_ok hx hz).symm⟩,rfl,(by simp only [num_vI r_c0,num_vI r_c1,num_vI r_c2,num_vI r_c3]),trivial⟩
abbrev pool_take1_K (sb:Nat) (c0 c1 c2 c3 n:Int) (KK:(Int×Int)->Prop):Prop:=pool_take1_A sb c0 c1 c2 c3 n (fun za zh zv zu zp=>callQ Try.prog 149 za zh (Int×Int) zv zu zp KK)
theorem pool_take1_m (sb:Nat) (c0 c1 c2 c3 n:Int) {KK:(Int×Int)->Prop} (kont: ∀zx:Int×Int,R4 zx.2->(zx=cTake c1 n)->KK zx) (r_c0:R4 c0:=by assumption) (r_c1:R4 c1:=by assumption) (r_c2:R4 c2:=by assumption) (r_c3:R4 c3:=by assumption) (r_n:R4 n:=by assumption):pool_take1_K sb c0 c1 c2 c3 n KK:=callQ_mk (pool_take1 sb c0 c1 c2 c3 n r_c0 r_c1 r_c2 r_c3 r_n) (⟨_,cTake_R (by first | exact R4_num _ | exact r_c1) (by first | exact R4_num _ | exact r_n),rfl⟩) fun zx hz=>by
  obtain ⟨rhz_2,hz⟩:=hz
  try simp only [num_vI (n:=c0) r_c0,num_vI (n:=c1) r_c1,num_vI (n:=c2) r_c2,num_vI (n:=c3) r_c3,num_vI (n:=n) r_n] at hz
  exact kont zx rhz_2 hz
noncomputable def pool_take2_C:List Value->List Slot->Ctr:=fun vs hs=>⟨Int×Int,fun zx=> .int .i64 zx.1,fun zx=> [.blk (vblk (varg vs 1)) (.cells #[uu (lim (num (.agg #[cell (.agg (scells (sarg hs 0))) 0,cell (.agg (scells (sarg hs 0))) 1,cell (.agg (scells (sarg hs 0))) 2,cell (.agg (scells (sarg hs 0))) 3])) 0),uu (lim (num (.agg #[cell (.agg (scells (sarg hs 0))) 0,cell (.agg (scells (sarg hs 0))) 1,cell (.agg (scells (sarg hs 0))) 2,cell (.agg (scells (sarg hs 0))) 3])) 1),uu (lim (num (.agg #[cell (.agg (scells (sarg hs 0))) 0,cell (.agg (scells (sarg hs 0))) 1,cell (.agg (scells (sarg hs 0))) 2,cell (.agg (scells (sarg hs 0))) 3])) 2),uu (lim (num (.agg #[cell (.agg (scells (sarg hs 0))) 0,cell (.agg (scells (sarg hs 0))) 1,cell (.agg (scells (sarg hs 0))) 2,cell (.agg (scells (sarg hs 0))) 3])) 3),uu (lim (num (.agg #[cell (.agg (scells (sarg hs 0))) 4,cell (.agg (scells (sarg hs 0))) 5,cell (.agg (scells (sarg hs 0))) 6,cell (.agg (scells (sarg hs 0))) 7])) 0),uu (lim (num (.agg #[cell (.agg (scells (sarg hs 0))) 4,cell (.agg (scells (sarg hs 0))) 5,cell (.agg (scells (sarg hs 0))) 6,cell (.agg (scells (sarg hs 0))) 7])) 1),uu (lim (num (.agg #[cell (.agg (scells (sarg hs 0))) 4,cell (.agg (scells (sarg hs 0))) 5,cell (.agg (scells (sarg hs 0))) 6,cell (.agg (scells (sarg hs 0))) 7])) 2),uu (lim (num (.agg #[cell (.agg (scells (sarg hs 0))) 4,cell (.agg (scells (sarg hs 0))) 5,cell (.agg (scells (sarg hs 0))) 6,cell (.agg (scells (sarg hs 0))) 7])) 3),uu (lim zx.2 0),uu (lim zx.2 1),uu (lim zx.2 2),uu (lim zx.2 3),uu (lim (num (.agg #[cell (.agg (scells (sarg hs 0))) 12,cell (.agg (scells (sarg hs 0))) 13,cell (.agg (scells (sarg hs 0))) 14,cell (.agg (scells (sarg hs 0))) 15])) 0),uu (lim (num (.agg #[cell (.agg (scells (sarg hs 0))) 12,cell (.agg (scells (sarg hs 0))) 13,cell (.agg (scells (sarg hs 0))) 14,cell (.agg (scells (sarg hs 0))) 15])) 1),uu (lim (num (.agg #[cell (.agg (scells (sarg hs 0))) 12,cell (.agg (scells (sarg hs 0))) 13,cell (.agg (scells (sarg hs 0))) 14,cell (.agg (scells (sarg hs 0))) 15])) 2),uu (lim (num (.agg #[cell (.agg (scells (sarg hs 0))) 12,cell (.agg (scells (sarg hs 0))) 13,cell (.agg (scells (sarg hs 0))) 14,cell (.agg (scells (sarg hs 0))) 15])) 3)] 51 (0,0))],fun zx=>R4 zx.2/\zx=cTake (num (.agg #[cell (.agg (scells (sarg hs 0))) 8,cell (.agg (scells (sarg hs 0))) 9,cell (.agg (scells (sarg hs 0))) 10,cell (.agg (scells (sarg hs 0))) 11])) (num (varg vs 2))⟩
abbrev pool_take2_Q (sb:Nat) (c0 c1 c2 c3 n:Int) (zv:Value) (zs0:Slot):Prop:= ∃zx:Int×Int,(R4 zx.2/\zx=cTake (num (vI c2)) (num (vI n)))/\zv= .int .i64 zx.1/\zs0=bk sb #[uu (lim (num (vI c0)) 0),uu (lim (num (vI c0)) 1),uu (lim (num (vI c0)) 2),uu (lim (num (vI c0)) 3),uu (lim (num (vI c1)) 0),uu (lim (num (vI c1)) 1),uu (lim (num (vI c1)) 2),uu (lim (num (vI c1)) 3),uu (lim zx.2 0),uu (lim zx.2 1),uu (lim zx.2 2),uu (lim zx.2 3),uu (lim (num (vI c3)) 0),uu (lim (num (vI c3)) 1),uu (lim (num (vI c3)) 2),uu (lim (num (vI c3)) 3)] 51/\True
abbrev pool_take2_A (sb:Nat) (c0 c1 c2 c3 n:Int) (zF:SF (Int×Int)):Prop:=zF #[pp sb 8,vI n] [bk sb #[uu (lim c0 0),uu (lim c0 1),uu (lim c0 2),uu (lim c0 3),uu (lim c1 0),uu (lim c1 1),uu (lim c1 2),uu (lim c1 3),uu (lim c2 0),uu (lim c2 1),uu (lim c2 2),uu (lim c2 3),uu (lim c3 0),uu (lim c3 1),uu (lim c3 2),uu (lim c3 3)] 51] (fun zx=> .int .i64 zx.1) (fun zx=> [bk sb #[uu (lim (num (vI c0)) 0),uu (lim (num (vI c0)) 1),uu (lim (num (vI c0)) 2),uu (lim (num (vI c0)) 3),uu (lim (num (vI c1)) 0),uu (lim (num (vI c1)) 1),uu (lim (num (vI c1)) 2),uu (lim (num (vI c1)) 3),uu (lim zx.2 0),uu (lim zx.2 1),uu (lim zx.2 2),uu (lim zx.2 3),uu (lim (num (vI c3)) 0),uu (lim (num (vI c3)) 1),uu (lim (num (vI c3)) 2),uu (lim (num (vI c3)) 3)] 51]) (fun zx=>(R4 zx.2/\zx=cTake (num (vI c2)) (num (vI n))))
set_option maxRecDepth 100000 in
theorem pool_take2_vc (sb:Nat) (c0 c1 c2 c3 n:Int):pool_take2_A sb c0 c1 c2 c3 n (fun za zh zv zu zp=>codeW Try.prog 20 none 2000 none (bodyOf Try.f149) (.reg [.sem [.nw 1],S0] (.reg [S0,S0, .sem (rds 4 0), .sem (rds 4 1), .callr [] huge_Sub_C,S0,S0,S0, .sem [.nw 2], .sem (wrs 4 2),S0] (.reg [S0,S0] (.cond (.reg [S0] (.done)) (.reg [S0, .sem (rds 4 2),S0, .sem (wrs 4 0)] (.reg [S0] (.done)))))))
    (init za zh) (finW Try.prog Try.f149 [] [0] (X:=Int×Int) zv zu zp))=
    (∀b1:Nat,rdQ 4 sb (rdQ 4 b1 (huge_Sub_K c2 n (fun x2=> ∀b3:Nat,rdQ 4 b3 (((x2.2 !=(0:Int))=true->pool_take2_Q sb c0 c1 c2 c3 n (Value.int .i64 8) (bk sb #[uu (lim c0 0),uu (lim c0 1),uu (lim c0 2),uu (lim c0 3),uu (lim c1 0),uu (lim c1 1),uu (lim c1 2),uu (lim c1 3),uu (lim c2 0),uu (lim c2 1),uu (lim c2 2),uu (lim c2 3),uu (lim c3 0),uu (lim c3 1),uu (lim c3 2),uu (lim c3 3)] 51))/\((x2.2 !=(0:Int))=false->rdQ 4 b3 (rdQ 4 sb (pool_take2_Q sb c0 c1 c2 c3 n (Value.int .i64 0) (bk sb #[uu (lim c0 0),uu (lim c0 1),uu (lim c0 2),uu (lim c0 3),uu (lim c1 0),uu (lim c1 1),uu (lim c1 2),uu (lim c1 3),uu (lim x2.1 0),uu (lim x2.1 1),uu (lim x2.1 2),uu (lim x2.1 3),uu (lim c3 0),uu (lim c3 1),uu (lim c3 2),uu (lim c3 3)] 51))))))))):=by kernel_rfl
set_option maxRecDepth 100000 in
theorem pool_take2 (sb:Nat) (c0 c1 c2 c3 n:Int) (r_c0:R4 c0) (r_c1:R4 c1) (r_c2:R4 c2) (r_c3:R4 c3) (r_n:R4 n):pool_take2_A sb c0 c1 c2 c3 n (fun za zh zv zu zp=>CallT Try.prog 149 za zh (Int×Int) zv zu zp):=by
  refine call_of (c:=bodyOf Try.f149) (n:=20) (fn:=Try.f149) Try.mixed Try.func149 (by kernel_rfl) (by kernel_rfl) (by kernel_rfl) 2000 _ [] [0] rfl rfl (Eq.mpr (pool_take2_vc sb c0 c1 c2 c3 n) ?_)
  intro b1
  refine rdQ_mk 4 _ (rdQ_mk 4 _ (huge_Sub_m c2 n (fun x2 rh1_1 h1=> ?_)))
  have hx:=h1
  intro b3
  refine rdQ_mk 4 _ ⟨fun h2=> ?_,fun h2=> ?_⟩
  · have hz:=(bne_iff_ne.1 h2)
    exact ⟨(8,c2),⟨r_c2,by rw [num_vI r_c2,num_vI r_n];exact (cTake_no hx hz).symm⟩,rfl,(by simp only [num_vI r_c0,num_vI r_c1,num_vI r_c2,num_vI r_c3]),trivial⟩
  refine rdQ_mk 4 _ (rdQ_mk 4 _ ?_)
  have hz:=(bne_eq_false_iff_eq.1 h2)
  exact ⟨(0,x2.1),⟨by assumption,by rw [num_vI r_c2,num_vI r_n];exact (cTake_ok hx hz).symm⟩,rfl,(by simp only [num_vI r_c0,num_vI r_c1,num_vI r_c2,num_vI r_c3]),trivial⟩
abbrev pool_take2_K (sb:Nat) (c0 c1 c2 c3 n:Int) (KK:(Int×Int)->Prop):Prop:=pool_take2_A sb c0 c1 c2 c3 n (fun za zh zv zu zp=>callQ Try.prog 149 za zh (Int×Int) zv zu zp KK)
theorem pool_take2_m (sb:Nat) (c0 c1 c2 c3 n:Int) {KK:(Int×Int)->Prop} (kont: ∀zx:Int×Int,R4 zx.2->(zx=cTake c2 n)->KK zx) (r_c0:R4 c0:=by assumption) (r_c1:R4 c1:=by assumption) (r_c2:R4 c2:=by assumption) (r_c3:R4 c3:=by assumption) (r_n:R4 n:=by assumption):pool_take2_K sb c0 c1 c2 c3 n KK:=callQ_mk (pool_take2 sb c0 c1 c2 c3 n r_c0 r_c1 r_c2 r_c3 r_n) (⟨_,cTake_R (by first | exact R4_num _ | exact r_c2) (by first | exact R4_num _ | exact r_n),rfl⟩) fun zx hz=>by
  obtain ⟨rhz_2,hz⟩:=hz
  try simp only [num_vI (n:=c0) r_c0,num_vI (n:=c1) r_c1,num_vI (n:=c2) r_c2,num_vI (n:=c3) r_c3,num_vI (n:=n) r_n] at hz
  exact kont zx rhz_2 hz
noncomputable def pool_put0_C:List Value->List Slot->Ctr:=fun vs hs=>⟨Int×Int,fun zx=> .int .i64 zx.1,fun zx=> [.blk (vblk (varg vs 1)) (.cells #[uu (lim zx.2 0),uu (lim zx.2 1),uu (lim zx.2 2),uu (lim zx.2 3),uu (lim (num (.agg #[cell (.agg (scells (sarg hs 0))) 4,cell (.agg (scells (sarg hs 0))) 5,cell (.agg (scells (sarg hs 0))) 6,cell (.agg (scells (sarg hs 0))) 7])) 0),uu (lim (num (.agg #[cell (.agg (scells (sarg hs 0))) 4,cell (.agg (scells (sarg hs 0))) 5,cell (.agg (scells (sarg hs 0))) 6,cell (.agg (scells (sarg hs 0))) 7])) 1),uu (lim (num (.agg #[cell (.agg (scells (sarg hs 0))) 4,cell (.agg (scells (sarg hs 0))) 5,cell (.agg (scells (sarg hs 0))) 6,cell (.agg (scells (sarg hs 0))) 7])) 2),uu (lim (num (.agg #[cell (.agg (scells (sarg hs 0))) 4,cell (.agg (scells (sarg hs 0))) 5,cell (.agg (scells (sarg hs 0))) 6,cell (.agg (scells (sarg hs 0))) 7])) 3),uu (lim (num (.agg #[cell (.agg (scells (sarg hs 0))) 8,cell (.agg (scells (sarg hs 0))) 9,cell (.agg (scells (sarg hs 0))) 10,cell (.agg (scells (sarg hs 0))) 11])) 0),uu (lim (num (.agg #[cell (.agg (scells (sarg hs 0))) 8,cell (.agg (scells (sarg hs 0))) 9,cell (.agg (scells (sarg hs 0))) 10,cell (.agg (scells (sarg hs 0))) 11])) 1),uu (lim (num (.agg #[cell (.agg (scells (sarg hs 0))) 8,cell (.agg (scells (sarg hs 0))) 9,cell (.agg (scells (sarg hs 0))) 10,cell (.agg (scells (sarg hs 0))) 11])) 2),uu (lim (num (.agg #[cell (.agg (scells (sarg hs 0))) 8,cell (.agg (scells (sarg hs 0))) 9,cell (.agg (scells (sarg hs 0))) 10,cell (.agg (scells (sarg hs 0))) 11])) 3),uu (lim (num (.agg #[cell (.agg (scells (sarg hs 0))) 12,cell (.agg (scells (sarg hs 0))) 13,cell (.agg (scells (sarg hs 0))) 14,cell (.agg (scells (sarg hs 0))) 15])) 0),uu (lim (num (.agg #[cell (.agg (scells (sarg hs 0))) 12,cell (.agg (scells (sarg hs 0))) 13,cell (.agg (scells (sarg hs 0))) 14,cell (.agg (scells (sarg hs 0))) 15])) 1),uu (lim (num (.agg #[cell (.agg (scells (sarg hs 0))) 12,cell (.agg (scells (sarg hs 0))) 13,cell (.agg (scells (sarg hs 0))) 14,cell (.agg (scells (sarg hs 0))) 15])) 2),uu (lim (num (.agg #[cell (.agg (scells (sarg hs 0))) 12,cell (.agg (scells (sarg hs 0))) 13,cell (.agg (scells (sarg hs 0))) 14,cell (.agg (scells (sarg hs 0))) 15])) 3)] 51 (0,0))],fun zx=>R4 zx.2/\zx=cPut (num (.agg #[cell (.agg (scells (sarg hs 0))) 0,cell (.agg (scells (sarg hs 0))) 1,cell (.agg (scells (sarg hs 0))) 2,cell (.agg (scells (sarg hs 0))) 3])) (num (varg vs 2))⟩
abbrev pool_put0_Q (sb:Nat) (c0 c1 c2 c3 n:Int) (zv:Value) (zs0:Slot):Prop:= ∃zx:Int×Int,(R4 zx.2/\zx=cPut (num (vI c0)) (num (vI n)))/\zv= .int .i64 zx.1/\zs0=bk sb #[uu (lim zx.2 0),uu (lim zx.2 1),uu (lim zx.2 2),uu (lim zx.2 3),uu (lim (num (vI c1)) 0),uu (lim (num (vI c1)) 1),uu (lim (num (vI c1)) 2),uu (lim (num (vI c1)) 3),uu (lim (num (vI c2)) 0),uu (lim (num (vI c2)) 1),uu (lim (num (vI c2)) 2),uu (lim (num (vI c2)) 3),uu (lim (num (vI c3)) 0),uu (lim (num (vI c3)) 1),uu (lim (num (vI c3)) 2),uu (lim (num (vI c3)) 3)] 51/\True
abbrev pool_put0_A (sb:Nat) (c0 c1 c2 c3 n:Int) (zF:SF (Int×Int)):Prop:=zF #[pp sb 0,vI n] [bk sb #[uu (lim c0 0),uu (lim c0 1),uu (lim c0 2),uu (lim c0 3),uu (lim c1 0),uu (lim c1 1),uu (lim c1 2),uu (lim c1 3),uu (lim c2 0),uu (lim c2 1),uu (lim c2 2),uu (lim c2 3),uu (lim c3 0),uu (lim c3 1),uu (lim c3 2),uu (lim c3 3)] 51] (fun zx=> .int .i64 zx.1) (fun zx=> [bk sb #[uu (lim zx.2 0),uu (lim zx.2 1),uu (lim zx.2 2),uu (lim zx.2 3),uu (lim (num (vI c1)) 0),uu (lim (num (vI c1)) 1),uu (lim (num (vI c1)) 2),uu (lim (num (vI c1)) 3),uu (lim (num (vI c2)) 0),uu (lim (num (vI c2)) 1),uu (lim (num (vI c2)) 2),uu (lim (num (vI c2)) 3),uu (lim (num (vI c3)) 0),uu (lim (num (vI c3)) 1),uu (lim (num (vI c3)) 2),uu (lim (num (vI c3)) 3)] 51]) (fun zx=>(R4 zx.2/\zx=cPut (num (vI c0)) (num (vI n))))
set_option maxRecDepth 100000 in
theorem pool_put0_vc (sb:Nat) (c0 c1 c2 c3 n:Int):pool_put0_A sb c0 c1 c2 c3 n (fun za zh zv zu zp=>codeW Try.prog 21 none 2000 none (bodyOf Try.f146) (.reg [.sem [.nw 1],S0] (.reg [S0,S0, .sem (rds 4 0), .sem (rds 4 1), .callr [] huge_Add_C,S0,S0,S0, .sem [.nw 2], .sem (wrs 4 2),S0] (.reg [S0,S0] (.cond (.reg [S0, .sem (rds 4 2),S0, .sem (wrs 4 0)] (.reg [S0,S0] (.done))) (.reg [S0,S0] (.done))))))
    (init za zh) (finW Try.prog Try.f146 [] [0] (X:=Int×Int) zv zu zp))=
    (∀b1:Nat,rdQ 4 sb (rdQ 4 b1 (huge_Add_K c0 n (fun x2=> ∀b3:Nat,rdQ 4 b3 (((x2.2==(0:Int))=true->rdQ 4 b3 (rdQ 4 sb (pool_put0_Q sb c0 c1 c2 c3 n (Value.int .i64 x2.2) (bk sb #[uu (lim x2.1 0),uu (lim x2.1 1),uu (lim x2.1 2),uu (lim x2.1 3),uu (lim c1 0),uu (lim c1 1),uu (lim c1 2),uu (lim c1 3),uu (lim c2 0),uu (lim c2 1),uu (lim c2 2),uu (lim c2 3),uu (lim c3 0),uu (lim c3 1),uu (lim c3 2),uu (lim c3 3)] 51))))/\((x2.2==(0:Int))=false->pool_put0_Q sb c0 c1 c2 c3 n (Value.int .i64 x2.2) (bk sb #[uu (lim c0 0),uu (lim c0 1),uu (lim c0 2),uu (lim c0 3),uu (lim c1 0),uu (lim c1 1),uu (lim c1 2),uu (lim c1 3),uu (lim c2 0),uu (lim c2 1),uu (lim c2 2),uu (lim c2 3),uu (lim c3 0),uu (lim c3 1),uu (lim c3 2),uu (lim c3 3)] 51))))))):=by kernel_rfl
set_option maxRecDepth 100000 in
theorem pool_put0 (sb:Nat) (c0 c1 c2 c3 n:Int) (r_c0:R4 c0) (r_c1:R4 c1) (r_c2:R4 c2) (r_c3:R4 c3) (r_n:R4 n):pool_put0_A sb c0 c1 c2 c3 n (fun za zh zv zu zp=>CallT Try.prog 146 za zh (Int×Int) zv zu zp):=by
  refine call_of (c:=bodyOf Try.f146) (n:=21) (fn:=Try.f146) Try.mixed Try.func146 (by kernel_rfl) (by kernel_rfl) (by kernel_rfl) 2000 _ [] [0] rfl rfl (Eq.mpr (pool_put0_vc sb c0 c1 c2 c3 n) ?_)
  intro b1
  refine rdQ_mk 4 _ (rdQ_mk 4 _ (huge_Add_m c0 n (fun x2 rh1_1 h1=> ?_)))
  have hx:=h1
  intro b3
  refine rdQ_mk 4 _ ⟨fun h2=> ?_,fun h2=> ?_⟩
  · refine rdQ_mk 4 _ (rdQ_mk 4 _ ?_)
    have hz:=(beq_iff_eq.1 h2)
    exact ⟨(x2.2,x2.1),⟨by assumption,by rw [num_vI r_c0,num_vI r_n];exact ((cPut_ok hx hz).trans (by rw [hz])).symm⟩,rfl,(by simp only [num_vI r_c0,num_vI r_c1,num_vI r_c2,num_vI r_c3]),trivial⟩
  have hz:=(beq_eq_false_iff_ne.1 h2)
  exact ⟨(x2.2,c0),⟨r_c0,by rw [num_vI r_c0,num_vI r_n];exact (cPut_no hx hz).symm⟩,rfl,(by simp only [num_vI r_c0,num_vI r_c1,num_vI r_c2,num_vI r_c3]),trivial⟩
abbrev pool_put0_K (sb:Nat) (c0 c1 c2 c3 n:Int) (KK:(Int×Int)->Prop):Prop:=pool_put0_A sb c0 c1 c2 c3 n (fun za zh zv zu zp=>callQ Try.prog 146 za zh (Int×Int) zv zu zp KK)
theorem pool_put0_m (sb:Nat) (c0 c1 c2 c3 n:Int) {KK:(Int×Int)->Prop} (kont: ∀zx:Int×Int,R4 zx.2->(zx=cPut c0 n)->KK zx) (r_c0:R4 c0:=by assumption) (r_c1:R4 c1:=by assumption) (r_c2:R4 c2:=by assumption) (r_c3:R4 c3:=by assumption) (r_n:R4 n:=by assumption):pool_put0_K sb c0 c1 c2 c3 n KK:=callQ_mk (pool_put0 sb c0 c1 c2 c3 n r_c0 r_c1 r_c2 r_c3 r_n) (⟨_,cPut_R (by first | exact R4_num _ | exact r_c0) (by first | exact R4_num _ | exact r_n),rfl⟩) fun zx hz=>by
  obtain ⟨rhz_2,hz⟩:=hz
  try simp only [num_vI (n:=c0) r_c0,num_vI (n:=c1) r_c1,num_vI (n:=c2) r_c2,num_vI (n:=c3) r_c3,num_vI (n:=n) r_n] at hz
  exact kont zx rhz_2 hz
noncomputable def pool_put1_C:List Value->List Slot->Ctr:=fun vs hs=>⟨Int×Int,fun zx=> .int .i64 zx.1,fun zx=> [.blk (vblk (varg vs 1)) (.cells #[uu (lim (num (.agg #[cell (.agg (scells (sarg hs 0))) 0,cell (.agg (scells (sarg hs 0))) 1,cell (.agg (scells (sarg hs 0))) 2,cell (.agg (scells (sarg hs 0))) 3])) 0),uu (lim (num (.agg #[cell (.agg (scells (sarg hs 0))) 0,cell (.agg (scells (sarg hs 0))) 1,cell (.agg (scells (sarg hs 0))) 2,cell (.agg (scells (sarg hs 0))) 3])) 1),uu (lim (num (.agg #[cell (.agg (scells (sarg hs 0))) 0,cell (.agg (scells (sarg hs 0))) 1,cell (.agg (scells (sarg hs 0))) 2,cell (.agg (scells (sarg hs 0))) 3])) 2),uu (lim (num (.agg #[cell (.agg (scells (sarg hs 0))) 0,cell (.agg (scells (sarg hs 0))) 1,cell (.agg (scells (sarg hs 0))) 2,cell (.agg (scells (sarg hs 0))) 3])) 3),uu (lim zx.2 0),uu (lim zx.2 1),uu (lim zx.2 2),uu (lim zx.2 3),uu (lim (num (.agg #[cell (.agg (scells (sarg hs 0))) 8,cell (.agg (scells (sarg hs 0))) 9,cell (.agg (scells (sarg hs 0))) 10,cell (.agg (scells (sarg hs 0))) 11])) 0),uu (lim (num (.agg #[cell (.agg (scells (sarg hs 0))) 8,cell (.agg (scells (sarg hs 0))) 9,cell (.agg (scells (sarg hs 0))) 10,cell (.agg (scells (sarg hs 0))) 11])) 1),uu (lim (num (.agg #[cell (.agg (scells (sarg hs 0))) 8,cell (.agg (scells (sarg hs 0))) 9,cell (.agg (scells (sarg hs 0))) 10,cell (.agg (scells (sarg hs 0))) 11])) 2),uu (lim (num (.agg #[cell (.agg (scells (sarg hs 0))) 8,cell (.agg (scells (sarg hs 0))) 9,cell (.agg (scells (sarg hs 0))) 10,cell (.agg (scells (sarg hs 0))) 11])) 3),uu (lim (num (.agg #[cell (.agg (scells (sarg hs 0))) 12,cell (.agg (scells (sarg hs 0))) 13,cell (.agg (scells (sarg hs 0))) 14,cell (.agg (scells (sarg hs 0))) 15])) 0),uu (lim (num (.agg #[cell (.agg (scells (sarg hs 0))) 12,cell (.agg (scells (sarg hs 0))) 13,cell (.agg (scells (sarg hs 0))) 14,cell (.agg (scells (sarg hs 0))) 15])) 1),uu (lim (num (.agg #[cell (.agg (scells (sarg hs 0))) 12,cell (.agg (scells (sarg hs 0))) 13,cell (.agg (scells (sarg hs 0))) 14,cell (.agg (scells (sarg hs 0))) 15])) 2),uu (lim (num (.agg #[cell (.agg (scells (sarg hs 0))) 12,cell (.agg (scells (sarg hs 0))) 13,cell (.agg (scells (sarg hs 0))) 14,cell (.agg (scells (sarg hs 0))) 15])) 3)] 51 (0,0))],fun zx=>R4 zx.2/\zx=cPut (num (.agg #[cell (.agg (scells (sarg hs 0))) 4,cell (.agg (scells (sarg hs 0))) 5,cell (.agg (scells (sarg hs 0))) 6,cell (.agg (scells (sarg hs 0))) 7])) (num (varg vs 2))⟩
abbrev pool_put1_Q (sb:Nat) (c0 c1 c2 c3 n:Int) (zv:Value) (zs0:Slot):Prop:= ∃zx:Int×Int,(R4 zx.2/\zx=cPut (num (vI c1)) (num (vI n)))/\zv= .int .i64 zx.1/\zs0=bk sb #[uu (lim (num (vI c0)) 0),uu (lim (num (vI c0)) 1),uu (lim (num (vI c0)) 2),uu (lim (num (vI c0)) 3),uu (lim zx.2 0),uu (lim zx.2 1),uu (lim zx.2 2),uu (lim zx.2 3),uu (lim (num (vI c2)) 0),uu (lim (num (vI c2)) 1),uu (lim (num (vI c2)) 2),uu (lim (num (vI c2)) 3),uu (lim (num (vI c3)) 0),uu (lim (num (vI c3)) 1),uu (lim (num (vI c3)) 2),uu (lim (num (vI c3)) 3)] 51/\True
abbrev pool_put1_A (sb:Nat) (c0 c1 c2 c3 n:Int) (zF:SF (Int×Int)):Prop:=zF #[pp sb 4,vI n] [bk sb #[uu (lim c0 0),uu (lim c0 1),uu (lim c0 2),uu (lim c0 3),uu (lim c1 0),uu (lim c1 1),uu (lim c1 2),uu (lim c1 3),uu (lim c2 0),uu (lim c2 1),uu (lim c2 2),uu (lim c2 3),uu (lim c3 0),uu (lim c3 1),uu (lim c3 2),uu (lim c3 3)] 51] (fun zx=> .int .i64 zx.1) (fun zx=> [bk sb #[uu (lim (num (vI c0)) 0),uu (lim (num (vI c0)) 1),uu (lim (num (vI c0)) 2),uu (lim (num (vI c0)) 3),uu (lim zx.2 0),uu (lim zx.2 1),uu (lim zx.2 2),uu (lim zx.2 3),uu (lim (num (vI c2)) 0),uu (lim (num (vI c2)) 1),uu (lim (num (vI c2)) 2),uu (lim (num (vI c2)) 3),uu (lim (num (vI c3)) 0),uu (lim (num (vI c3)) 1),uu (lim (num (vI c3)) 2),uu (lim (num (vI c3)) 3)] 51]) (fun zx=>(R4 zx.2/\zx=cPut (num (vI c1)) (num (vI n))))
set_option maxRecDepth 100000 in
theorem pool_put1_vc (sb:Nat) (c0 c1 c2 c3 n:Int):pool_put1_A sb c0 c1 c2 c3 n (fun za zh zv zu zp=>codeW Try.prog 21 none 2000 none (bodyOf Try.f146) (.reg [.sem [.nw 1],S0] (.reg [S0,S0, .sem (rds 4 0), .sem (rds 4 1), .callr [] huge_Add_C,S0,S0,S0, .sem [.nw 2], .sem (wrs 4 2),S0] (.reg [S0,S0] (.cond (.reg [S0, .sem (rds 4 2),S0, .sem (wrs 4 0)] (.reg [S0,S0] (.done))) (.reg [S0,S0] (.done))))))
    (init za zh) (finW Try.prog Try.f146 [] [0] (X:=Int×Int) zv zu zp))=
    (∀b1:Nat,rdQ 4 sb (rdQ 4 b1 (huge_Add_K c1 n (fun x2=> ∀b3:Nat,rdQ 4 b3 (((x2.2==(0:Int))=true->rdQ 4 b3 (rdQ 4 sb (pool_put1_Q sb c0 c1 c2 c3 n (Value.int .i64 x2.2) (bk sb #[uu (lim c0 0),uu (lim c0 1),uu (lim c0 2),uu (lim c0 3),uu (lim x2.1 0),uu (lim x2.1 1),uu (lim x2.1 2),uu (lim x2.1 3),uu (lim c2 0),uu (lim c2 1),uu (lim c2 2),uu (lim c2 3),uu (lim c3 0),uu (lim c3 1),uu (lim c3 2),uu (lim c3 3)] 51))))/\((x2.2==(0:Int))=false->pool_put1_Q sb c0 c1 c2 c3 n (Value.int .i64 x2.2) (bk sb #[uu (lim c0 0),uu (lim c0 1),uu (lim c0 2),uu (lim c0 3),uu (lim c1 0),uu (lim c1 1),uu (lim c1 2),uu (lim c1 3),uu (lim c2 0),uu (lim c2 1),uu (lim c2 2),uu (lim c2 3),uu (lim c3 0),uu (lim c3 1),uu (lim c3 2),uu (lim c3 3)] 51))))))):=by kernel_rfl
set_option maxRecDepth 100000 in
theorem pool_put1 (sb:Nat) (c0 c1 c2 c3 n:Int) (r_c0:R4 c0) (r_c1:R4 c1) (r_c2:R4 c2) (r_c3:R4 c3) (r_n:R4 n):pool_put1_A sb c0 c1 c2 c3 n (fun za zh zv zu zp=>CallT Try.prog 146 za zh (Int×Int) zv zu zp):=by
  refine call_of (c:=bodyOf Try.f146) (n:=21) (fn:=Try.f146) Try.mixed Try.func146 (by kernel_rfl) (by kernel_rfl) (by kernel_rfl) 2000 _ [] [0] rfl rfl (Eq.mpr (pool_put1_vc sb c0 c1 c2 c3 n) ?_)
  intro b1
  refine rdQ_mk 4 _ (rdQ_mk 4 _ (huge_Add_m c1 n (fun x2 rh1_1 h1=> ?_)))
  have hx:=h1
  intro b3
  refine rdQ_mk 4 _ ⟨fun h2=> ?_,fun h2=> ?_⟩
  · refine rdQ_mk 4 _ (rdQ_mk 4 _ ?_)
    have hz:=(beq_iff_eq.1 h2)
    exact ⟨(x2.2,x2.1),⟨by assumption,by rw [num_vI r_c1,num_vI r_n];exact ((cPut_ok hx hz).trans (by rw [hz])).symm⟩,rfl,(by simp only [num_vI r_c0,num_vI r_c1,num_vI r_c2,num_vI r_c3]),trivial⟩
  have hz:=(beq_eq_false_iff_ne.1 h2)
  exact ⟨(x2.2,c1),⟨r_c1,by rw [num_vI r_c1,num_vI r_n];exact (cPut_no hx hz).symm⟩,rfl,(by simp only [num_vI r_c0,num_vI r_c1,num_vI r_c2,num_vI r_c3]),trivial⟩
abbrev pool_put1_K (sb:Nat) (c0 c1 c2 c3 n:Int) (KK:(Int×Int)->Prop):Prop:=pool_put1_A sb c0 c1 c2 c3 n (fun za zh zv zu zp=>callQ Try.prog 146 za zh (Int×Int) zv zu zp KK)
theorem pool_put1_m (sb:Nat) (c0 c1 c2 c3 n:Int) {KK:(Int×Int)->Prop} (kont: ∀zx:Int×Int,R4 zx.2->(zx=cPut c1 n)->KK zx) (r_c0:R4 c0:=by assumption) (r_c1:R4 c1:=by assumption) (r_c2:R4 c2:=by assumption) (r_c3:R4 c3:=by assumption) (r_n:R4 n:=by assumption):pool_put1_K sb c0 c1 c2 c3 n KK:=callQ_mk (pool_put1 sb c0 c1 c2 c3 n r_c0 r_c1 r_c2 r_c3 r_n) (⟨_,cPut_R (by first | exact R4_num _ | exact r_c1) (by first | exact R4_num _ | exact r_n),rfl⟩) fun zx hz=>by
  obtain ⟨rhz_2,hz⟩:=hz
  try simp only [num_vI (n:=c0) r_c0,num_vI (n:=c1) r_c1,num_vI (n:=c2) r_c2,num_vI (n:=c3) r_c3,num_vI (n:=n) r_n] at hz
  exact kont zx rhz_2 hz
noncomputable def pool_put2_C:List Value->List Slot->Ctr:=fun vs hs=>⟨Int×Int,fun zx=> .int .i64 zx.1,fun zx=> [.blk (vblk (varg vs 1)) (.cells #[uu (lim (num (.agg #[cell (.agg (scells (sarg hs 0))) 0,cell (.agg (scells (sarg hs 0))) 1,cell (.agg (scells (sarg hs 0))) 2,cell (.agg (scells (sarg hs 0))) 3])) 0),uu (lim (num (.agg #[cell (.agg (scells (sarg hs 0))) 0,cell (.agg (scells (sarg hs 0))) 1,cell (.agg (scells (sarg hs 0))) 2,cell (.agg (scells (sarg hs 0))) 3])) 1),uu (lim (num (.agg #[cell (.agg (scells (sarg hs 0))) 0,cell (.agg (scells (sarg hs 0))) 1,cell (.agg (scells (sarg hs 0))) 2,cell (.agg (scells (sarg hs 0))) 3])) 2),uu (lim (num (.agg #[cell (.agg (scells (sarg hs 0))) 0,cell (.agg (scells (sarg hs 0))) 1,cell (.agg (scells (sarg hs 0))) 2,cell (.agg (scells (sarg hs 0))) 3])) 3),uu (lim (num (.agg #[cell (.agg (scells (sarg hs 0))) 4,cell (.agg (scells (sarg hs 0))) 5,cell (.agg (scells (sarg hs 0))) 6,cell (.agg (scells (sarg hs 0))) 7])) 0),uu (lim (num (.agg #[cell (.agg (scells (sarg hs 0))) 4,cell (.agg (scells (sarg hs 0))) 5,cell (.agg (scells (sarg hs 0))) 6,cell (.agg (scells (sarg hs 0))) 7])) 1),uu (lim (num (.agg #[cell (.agg (scells (sarg hs 0))) 4,cell (.agg (scells (sarg hs 0))) 5,cell (.agg (scells (sarg hs 0))) 6,cell (.agg (scells (sarg hs 0))) 7])) 2),uu (lim (num (.agg #[cell (.agg (scells (sarg hs 0))) 4,cell (.agg (scells (sarg hs 0))) 5,cell (.agg (scells (sarg hs 0))) 6,cell (.agg (scells (sarg hs 0))) 7])) 3),uu (lim zx.2 0),uu (lim zx.2 1),uu (lim zx.2 2),uu (lim zx.2 3),uu (lim (num (.agg #[cell (.agg (scells (sarg hs 0))) 12,cell (.agg (scells (sarg hs 0))) 13,cell (.agg (scells (sarg hs 0))) 14,cell (.agg (scells (sarg hs 0))) 15])) 0),uu (lim (num (.agg #[cell (.agg (scells (sarg hs 0))) 12,cell (.agg (scells (sarg hs 0))) 13,cell (.agg (scells (sarg hs 0))) 14,cell (.agg (scells (sarg hs 0))) 15])) 1),uu (lim (num (.agg #[cell (.agg (scells (sarg hs 0))) 12,cell (.agg (scells (sarg hs 0))) 13,cell (.agg (scells (sarg hs 0))) 14,cell (.agg (scells (sarg hs 0))) 15])) 2),uu (lim (num (.agg #[cell (.agg (scells (sarg hs 0))) 12,cell (.agg (scells (sarg hs 0))) 13,cell (.agg (scells (sarg hs 0))) 14,cell (.agg (scells (sarg hs 0))) 15])) 3)] 51 (0,0))],fun zx=>R4 zx.2/\zx=cPut (num (.agg #[cell (.agg (scells (sarg hs 0))) 8,cell (.agg (scells (sarg hs 0))) 9,cell (.agg (scells (sarg hs 0))) 10,cell (.agg (scells (sarg hs 0))) 11])) (num (varg vs 2))⟩
abbrev pool_put2_Q (sb:Nat) (c0 c1 c2 c3 n:Int) (zv:Value) (zs0:Slot):Prop:= ∃zx:Int×Int,(R4 zx.2/\zx=cPut (num (vI c2)) (num (vI n)))/\zv= .int .i64 zx.1/\zs0=bk sb #[uu (lim (num (vI c0)) 0),uu (lim (num (vI c0)) 1),uu (lim (num (vI c0)) 2),uu (lim (num (vI c0)) 3),uu (lim (num (vI c1)) 0),uu (lim (num (vI c1)) 1),uu (lim (num (vI c1)) 2),uu (lim (num (vI c1)) 3),uu (lim zx.2 0),uu (lim zx.2 1),uu (lim zx.2 2),uu (lim zx.2 3),uu (lim (num (vI c3)) 0),uu (lim (num (vI c3)) 1),uu (lim (num (vI c3)) 2),uu (lim (num (vI c3)) 3)] 51/\True
abbrev pool_put2_A (sb:Nat) (c0 c1 c2 c3 n:Int) (zF:SF (Int×Int)):Prop:=zF #[pp sb 8,vI n] [bk sb #[uu (lim c0 0),uu (lim c0 1),uu (lim c0 2),uu (lim c0 3),uu (lim c1 0),uu (lim c1 1),uu (lim c1 2),uu (lim c1 3),uu (lim c2 0),uu (lim c2 1),uu (lim c2 2),uu (lim c2 3),uu (lim c3 0),uu (lim c3 1),uu (lim c3 2),uu (lim c3 3)] 51] (fun zx=> .int .i64 zx.1) (fun zx=> [bk sb #[uu (lim (num (vI c0)) 0),uu (lim (num (vI c0)) 1),uu (lim (num (vI c0)) 2),uu (lim (num (vI c0)) 3),uu (lim (num (vI c1)) 0),uu (lim (num (vI c1)) 1),uu (lim (num (vI c1)) 2),uu (lim (num (vI c1)) 3),uu (lim zx.2 0),uu (lim zx.2 1),uu (lim zx.2 2),uu (lim zx.2 3),uu (lim (num (vI c3)) 0),uu (lim (num (vI c3)) 1),uu (lim (num (vI c3)) 2),uu (lim (num (vI c3)) 3)] 51]) (fun zx=>(R4 zx.2/\zx=cPut (num (vI c2)) (num (vI n))))
set_option maxRecDepth 100000 in
theorem pool_put2_vc (sb:Nat) (c0 c1 c2 c3 n:Int):pool_put2_A sb c0 c1 c2 c3 n (fun za zh zv zu zp=>codeW Try.prog 21 none 2000 none (bodyOf Try.f146) (.reg [.sem [.nw 1],S0] (.reg [S0,S0, .sem (rds 4 0), .sem (rds 4 1), .callr [] huge_Add_C,S0,S0,S0, .sem [.nw 2], .sem (wrs 4 2),S0] (.reg [S0,S0] (.cond (.reg [S0, .sem (rds 4 2),S0, .sem (wrs 4 0)] (.reg [S0,S0] (.done))) (.reg [S0,S0] (.done))))))
    (init za zh) (finW Try.prog Try.f146 [] [0] (X:=Int×Int) zv zu zp))=
    (∀b1:Nat,rdQ 4 sb (rdQ 4 b1 (huge_Add_K c2 n (fun x2=> ∀b3:Nat,rdQ 4 b3 (((x2.2==(0:Int))=true->rdQ 4 b3 (rdQ 4 sb (pool_put2_Q sb c0 c1 c2 c3 n (Value.int .i64 x2.2) (bk sb #[uu (lim c0 0),uu (lim c0 1),uu (lim c0 2),uu (lim c0 3),uu (lim c1 0),uu (lim c1 1),uu (lim c1 2),uu (lim c1 3),uu (lim x2.1 0),uu (lim x2.1 1),uu (lim x2.1 2),uu (lim x2.1 3),uu (lim c3 0),uu (lim c3 1),uu (lim c3 2),uu (lim c3 3)] 51))))/\((x2.2==(0:Int))=false->pool_put2_Q sb c0 c1 c2 c3 n (Value.int .i64 x2.2) (bk sb #[uu (lim c0 0),uu (lim c0 1),uu (lim c0 2),uu (lim c0 3),uu (lim c1 0),uu (lim c1 1),uu (lim c1 2),uu (lim c1 3),uu (lim c2 0),uu (lim c2 1),uu (lim c2 2),uu (lim c2 3),uu (lim c3 0),uu (lim c3 1),uu (lim c3 2),uu (lim c3 3)] 51))))))):=by kernel_rfl
set_option maxRecDepth 100000 in
theorem pool_put2 (sb:Nat) (c0 c1 c2 c3 n:Int) (r_c0:R4 c0) (r_c1:R4 c1) (r_c2:R4 c2) (r_c3:R4 c3) (r_n:R4 n):pool_put2_A sb c0 c1 c2 c3 n (fun za zh zv zu zp=>CallT Try.prog 146 za zh (Int×Int) zv zu zp):=by
  refine call_of (c:=bodyOf Try.f146) (n:=21) (fn:=Try.f146) Try.mixed Try.func146 (by kernel_rfl) (by kernel_rfl) (by kernel_rfl) 2000 _ [] [0] rfl rfl (Eq.mpr (pool_put2_vc sb c0 c1 c2 c3 n) ?_)
  intro b1
  refine rdQ_mk 4 _ (rdQ_mk 4 _ (huge_Add_m c2 n (fun x2 rh1_1 h1=> ?_)))
  have hx:=h1
  intro b3
  refine rdQ_mk 4 _ ⟨fun h2=> ?_,fun h2=> ?_⟩
  · refine rdQ_mk 4 _ (rdQ_mk 4 _ ?_)
    have hz:=(beq_iff_eq.1 h2)
    exact ⟨(x2.2,x2.1),⟨by assumption,by rw [num_vI r_c2,num_vI r_n];exact ((cPut_ok hx hz).trans (by rw [hz])).symm⟩,rfl,(by simp only [num_vI r_c0,num_vI r_c1,num_vI r_c2,num_vI r_c3]),trivial⟩
  have hz:=(beq_eq_false_iff_ne.1 h2)
  exact ⟨(x2.2,c2),⟨r_c2,by rw [num_vI r_c2,num_vI r_n];exact (cPut_no hx hz).symm⟩,rfl,(by simp only [num_vI r_c0,num_vI r_c1,num_vI r_c2,num_vI r_c3]),trivial⟩
abbrev pool_put2_K (sb:Nat) (c0 c1 c2 c3 n:Int) (KK:(Int×Int)->Prop):Prop:=pool_put2_A sb c0 c1 c2 c3 n (fun za zh zv zu zp=>callQ Try.prog 146 za zh (Int×Int) zv zu zp KK)
theorem pool_put2_m (sb:Nat) (c0 c1 c2 c3 n:Int) {KK:(Int×Int)->Prop} (kont: ∀zx:Int×Int,R4 zx.2->(zx=cPut c2 n)->KK zx) (r_c0:R4 c0:=by assumption) (r_c1:R4 c1:=by assumption) (r_c2:R4 c2:=by assumption) (r_c3:R4 c3:=by assumption) (r_n:R4 n:=by assumption):pool_put2_K sb c0 c1 c2 c3 n KK:=callQ_mk (pool_put2 sb c0 c1 c2 c3 n r_c0 r_c1 r_c2 r_c3 r_n) (⟨_,cPut_R (by first | exact R4_num _ | exact r_c2) (by first | exact R4_num _ | exact r_n),rfl⟩) fun zx hz=>by
  obtain ⟨rhz_2,hz⟩:=hz
  try simp only [num_vI (n:=c0) r_c0,num_vI (n:=c1) r_c1,num_vI (n:=c2) r_c2,num_vI (n:=c3) r_c3,num_vI (n:=n) r_n] at hz
  exact kont zx rhz_2 hz
noncomputable def pool_pass0_C:List Value->List Slot->Ctr:=fun vs hs=>⟨Int×ST,fun zx=> .int .i64 zx.1,fun zx=> [.blk (vblk (varg vs 1)) (.cells #[uu (lim zx.2.1 0),uu (lim zx.2.1 1),uu (lim zx.2.1 2),uu (lim zx.2.1 3),uu (lim zx.2.2.1 0),uu (lim zx.2.2.1 1),uu (lim zx.2.2.1 2),uu (lim zx.2.2.1 3),uu (lim zx.2.2.2.1 0),uu (lim zx.2.2.2.1 1),uu (lim zx.2.2.2.1 2),uu (lim zx.2.2.2.1 3),uu (lim zx.2.2.2.2 0),uu (lim zx.2.2.2.2 1),uu (lim zx.2.2.2.2 2),uu (lim zx.2.2.2.2 3)] 51 (0,0))],fun zx=>okS zx.2/\zx=cFront (((num (.agg #[cell (.agg (scells (sarg hs 0))) 0,cell (.agg (scells (sarg hs 0))) 1,cell (.agg (scells (sarg hs 0))) 2,cell (.agg (scells (sarg hs 0))) 3])),(num (.agg #[cell (.agg (scells (sarg hs 0))) 4,cell (.agg (scells (sarg hs 0))) 5,cell (.agg (scells (sarg hs 0))) 6,cell (.agg (scells (sarg hs 0))) 7])),(num (.agg #[cell (.agg (scells (sarg hs 0))) 8,cell (.agg (scells (sarg hs 0))) 9,cell (.agg (scells (sarg hs 0))) 10,cell (.agg (scells (sarg hs 0))) 11])),(num (.agg #[cell (.agg (scells (sarg hs 0))) 12,cell (.agg (scells (sarg hs 0))) 13,cell (.agg (scells (sarg hs 0))) 14,cell (.agg (scells (sarg hs 0))) 15]))):ST) (num (varg vs 3))⟩
abbrev pool_pass0_Q (sb:Nat) (c0 c1 c2 c3 n:Int) (zv:Value) (zs0:Slot):Prop:= ∃zx:Int×ST,(okS zx.2/\zx=cFront (((num (vI c0)),(num (vI c1)),(num (vI c2)),(num (vI c3))):ST) (num (vI n)))/\zv= .int .i64 zx.1/\zs0=bk sb #[uu (lim zx.2.1 0),uu (lim zx.2.1 1),uu (lim zx.2.1 2),uu (lim zx.2.1 3),uu (lim zx.2.2.1 0),uu (lim zx.2.2.1 1),uu (lim zx.2.2.1 2),uu (lim zx.2.2.1 3),uu (lim zx.2.2.2.1 0),uu (lim zx.2.2.2.1 1),uu (lim zx.2.2.2.1 2),uu (lim zx.2.2.2.1 3),uu (lim zx.2.2.2.2 0),uu (lim zx.2.2.2.2 1),uu (lim zx.2.2.2.2 2),uu (lim zx.2.2.2.2 3)] 51/\True
abbrev pool_pass0_A (sb:Nat) (c0 c1 c2 c3 n:Int) (zF:SF (Int×ST)):Prop:=zF #[pp sb 0,pp sb 4,vI n] [bk sb #[uu (lim c0 0),uu (lim c0 1),uu (lim c0 2),uu (lim c0 3),uu (lim c1 0),uu (lim c1 1),uu (lim c1 2),uu (lim c1 3),uu (lim c2 0),uu (lim c2 1),uu (lim c2 2),uu (lim c2 3),uu (lim c3 0),uu (lim c3 1),uu (lim c3 2),uu (lim c3 3)] 51] (fun zx=> .int .i64 zx.1) (fun zx=> [bk sb #[uu (lim zx.2.1 0),uu (lim zx.2.1 1),uu (lim zx.2.1 2),uu (lim zx.2.1 3),uu (lim zx.2.2.1 0),uu (lim zx.2.2.1 1),uu (lim zx.2.2.1 2),uu (lim zx.2.2.1 3),uu (lim zx.2.2.2.1 0),uu (lim zx.2.2.2.1 1),uu (lim zx.2.2.2.1 2),uu (lim zx.2.2.2.1 3),uu (lim zx.2.2.2.2 0),uu (lim zx.2.2.2.2 1),uu (lim zx.2.2.2.2 2),uu (lim zx.2.2.2.2 3)] 51]) (fun zx=>(okS zx.2/\zx=cFront (((num (vI c0)),(num (vI c1)),(num (vI c2)),(num (vI c3))):ST) (num (vI n))))
set_option maxRecDepth 100000 in
theorem pool_pass0_vc (sb:Nat) (c0 c1 c2 c3 n:Int):pool_pass0_A sb c0 c1 c2 c3 n (fun za zh zv zu zp=>codeW Try.prog 17 none 2000 none (bodyOf Try.f137) (.reg [.sem [.nw 1],S0] (.reg [S0, .sem (rds 4 1), .callw [0] [0] pool_take0_C,S0] (.reg [S0,S0] (.cond (.reg [S0,S0] (.done)) (.reg [S0, .sem (rds 4 1), .callw [0] [0] pool_put1_C,S0] (.done))))))
    (init za zh) (finW Try.prog Try.f137 [] [0] (X:=Int×ST) zv zu zp))=
    (∀b1:Nat,rdQ 4 b1 (pool_take0_K sb c0 c1 c2 c3 n (fun x2=>((x2.1 !=(0:Int))=true->pool_pass0_Q sb c0 c1 c2 c3 n (Value.int .i64 x2.1) (bk sb #[uu (lim x2.2 0),uu (lim x2.2 1),uu (lim x2.2 2),uu (lim x2.2 3),uu (lim (num (vI c1)) 0),uu (lim (num (vI c1)) 1),uu (lim (num (vI c1)) 2),uu (lim (num (vI c1)) 3),uu (lim (num (vI c2)) 0),uu (lim (num (vI c2)) 1),uu (lim (num (vI c2)) 2),uu (lim (num (vI c2)) 3),uu (lim (num (vI c3)) 0),uu (lim (num (vI c3)) 1),uu (lim (num (vI c3)) 2),uu (lim (num (vI c3)) 3)] 51))/\((x2.1 !=(0:Int))=false->rdQ 4 b1 (pool_put1_K sb x2.2 (num (vI c1)) (num (vI c2)) (num (vI c3)) n (fun x3=>pool_pass0_Q sb c0 c1 c2 c3 n (Value.int .i64 x3.1) (bk sb #[uu (lim (num (vI x2.2)) 0),uu (lim (num (vI x2.2)) 1),uu (lim (num (vI x2.2)) 2),uu (lim (num (vI x2.2)) 3),uu (lim x3.2 0),uu (lim x3.2 1),uu (lim x3.2 2),uu (lim x3.2 3),uu (lim (num (vI (num (vI c2)))) 0),uu (lim (num (vI (num (vI c2)))) 1),uu (lim (num (vI (num (vI c2)))) 2),uu (lim (num (vI (num (vI c2)))) 3),uu (lim (num (vI (num (vI c3)))) 0),uu (lim (num (vI (num (vI c3)))) 1),uu (lim (num (vI (num (vI c3)))) 2),uu (lim (num (vI (num (vI c3)))) 3)] 51))))))):=by kernel_rfl
set_option maxRecDepth 100000 in
theorem pool_pass0 (sb:Nat) (c0 c1 c2 c3 n:Int) (r_c0:R4 c0) (r_c1:R4 c1) (r_c2:R4 c2) (r_c3:R4 c3) (r_n:R4 n):pool_pass0_A sb c0 c1 c2 c3 n (fun za zh zv zu zp=>CallT Try.prog 137 za zh (Int×ST) zv zu zp):=by
  refine call_of (c:=bodyOf Try.f137) (n:=17) (fn:=Try.f137) Try.mixed Try.func137 (by kernel_rfl) (by kernel_rfl) (by kernel_rfl) 2000 _ [] [0] rfl rfl (Eq.mpr (pool_pass0_vc sb c0 c1 c2 c3 n) ?_)
  intro b1
  refine rdQ_mk 4 _ (pool_take0_m sb c0 c1 c2 c3 n (fun x2 rh1_2 h1=> ?_))
  have hy:=h1
  refine ⟨fun h2=> ?_,fun h2=> ?_⟩
  · have hz:=(bne_iff_ne.1 h2)
    exact ⟨(x2.1,(x2.2,(num (vI c1)),(num (vI c2)),(num (vI c3)))),⟨⟨by first | assumption | exact R4_num _,by first | assumption | exact R4_num _,by first | assumption | exact R4_num _,by first | assumption | exact R4_num _⟩,by simp only [num_vI r_c0,num_vI r_c1,num_vI r_c2,num_vI r_c3,num_vI r_n,num_vI (n:=x2.2) (by assumption)];exact (cFront_no (s:=(c0,c1,c2,c3)) hy hz).symm⟩,rfl,rfl,trivial⟩
  refine rdQ_mk 4 _ (pool_put1_m sb x2.2 (num (vI c1)) (num (vI c2)) (num (vI c3)) n (fun x3 rh3_2 h3=> ?_) (r_c1:=R4_num _) (r_c2:=R4_num _) (r_c3:=R4_num _))
  have hz2:=h3
  try simp only [num_vI r_c0,num_vI r_c1,num_vI r_c2,num_vI r_c3,num_vI r_n] at hz2
  have hz:=(bne_eq_false_iff_eq.1 h2)
  exact ⟨(x3.1,((num (vI x2.2)),x3.2,(num (vI (num (vI c2)))),(num (vI (num (vI c3)))))),⟨⟨by first | assumption | exact R4_num _,by first | assumption | exact R4_num _,by first | assumption | exact R4_num _,by first | assumption | exact R4_num _⟩,by simp only [num_vI r_c0,num_vI r_c1,num_vI r_c2,num_vI r_c3,num_vI r_n,num_vI (n:=x2.2) (by assumption)];exact (cFront_ok (s:=(c0,c1,c2,c3)) hy hz hz2).symm⟩,rfl,rfl,trivial⟩
abbrev pool_pass0_K (sb:Nat) (c0 c1 c2 c3 n:Int) (KK:(Int×ST)->Prop):Prop:=pool_pass0_A sb c0 c1 c2 c3 n (fun za zh zv zu zp=>callQ Try.prog 137 za zh (Int×ST) zv zu zp KK)
theorem pool_pass0_m (sb:Nat) (c0 c1 c2 c3 n:Int) {KK:(Int×ST)->Prop} (kont: ∀zx:Int×ST,okS zx.2->(zx=cFront ((c0,c1,c2,c3):ST) n)->KK zx) (r_c0:R4 c0:=by assumption) (r_c1:R4 c1:=by assumption) (r_c2:R4 c2:=by assumption) (r_c3:R4 c3:=by assumption) (r_n:R4 n:=by assumption):pool_pass0_K sb c0 c1 c2 c3 n KK:=callQ_mk (pool_pass0 sb c0 c1 c2 c3 n r_c0 r_c1 r_c2 r_c3 r_n) (⟨_,cFront_R ⟨R4_num _,R4_num _,R4_num _,R4_num _⟩ (R4_num _),rfl⟩) fun zx hz=>by
  obtain ⟨rhz_2,hz⟩:=hz
  try simp only [num_vI (n:=c0) r_c0,num_vI (n:=c1) r_c1,num_vI (n:=c2) r_c2,num_vI (n:=c3) r_c3,num_vI (n:=n) r_n] at hz
  exact kont zx rhz_2 hz
noncomputable def pool_pass1_C:List Value->List Slot->Ctr:=fun vs hs=>⟨Int×ST,fun zx=> .int .i64 zx.1,fun zx=> [.blk (vblk (varg vs 1)) (.cells #[uu (lim zx.2.1 0),uu (lim zx.2.1 1),uu (lim zx.2.1 2),uu (lim zx.2.1 3),uu (lim zx.2.2.1 0),uu (lim zx.2.2.1 1),uu (lim zx.2.2.1 2),uu (lim zx.2.2.1 3),uu (lim zx.2.2.2.1 0),uu (lim zx.2.2.2.1 1),uu (lim zx.2.2.2.1 2),uu (lim zx.2.2.2.1 3),uu (lim zx.2.2.2.2 0),uu (lim zx.2.2.2.2 1),uu (lim zx.2.2.2.2 2),uu (lim zx.2.2.2.2 3)] 51 (0,0))],fun zx=>okS zx.2/\zx=cRepay (((num (.agg #[cell (.agg (scells (sarg hs 0))) 0,cell (.agg (scells (sarg hs 0))) 1,cell (.agg (scells (sarg hs 0))) 2,cell (.agg (scells (sarg hs 0))) 3])),(num (.agg #[cell (.agg (scells (sarg hs 0))) 4,cell (.agg (scells (sarg hs 0))) 5,cell (.agg (scells (sarg hs 0))) 6,cell (.agg (scells (sarg hs 0))) 7])),(num (.agg #[cell (.agg (scells (sarg hs 0))) 8,cell (.agg (scells (sarg hs 0))) 9,cell (.agg (scells (sarg hs 0))) 10,cell (.agg (scells (sarg hs 0))) 11])),(num (.agg #[cell (.agg (scells (sarg hs 0))) 12,cell (.agg (scells (sarg hs 0))) 13,cell (.agg (scells (sarg hs 0))) 14,cell (.agg (scells (sarg hs 0))) 15]))):ST) (num (varg vs 3))⟩
abbrev pool_pass1_Q (sb:Nat) (c0 c1 c2 c3 n:Int) (zv:Value) (zs0:Slot):Prop:= ∃zx:Int×ST,(okS zx.2/\zx=cRepay (((num (vI c0)),(num (vI c1)),(num (vI c2)),(num (vI c3))):ST) (num (vI n)))/\zv= .int .i64 zx.1/\zs0=bk sb #[uu (lim zx.2.1 0),uu (lim zx.2.1 1),uu (lim zx.2.1 2),uu (lim zx.2.1 3),uu (lim zx.2.2.1 0),uu (lim zx.2.2.1 1),uu (lim zx.2.2.1 2),uu (lim zx.2.2.1 3),uu (lim zx.2.2.2.1 0),uu (lim zx.2.2.2.1 1),uu (lim zx.2.2.2.1 2),uu (lim zx.2.2.2.1 3),uu (lim zx.2.2.2.2 0),uu (lim zx.2.2.2.2 1),uu (lim zx.2.2.2.2 2),uu (lim zx.2.2.2.2 3)] 51/\True
abbrev pool_pass1_A (sb:Nat) (c0 c1 c2 c3 n:Int) (zF:SF (Int×ST)):Prop:=zF #[pp sb 4,pp sb 0,vI n] [bk sb #[uu (lim c0 0),uu (lim c0 1),uu (lim c0 2),uu (lim c0 3),uu (lim c1 0),uu (lim c1 1),uu (lim c1 2),uu (lim c1 3),uu (lim c2 0),uu (lim c2 1),uu (lim c2 2),uu (lim c2 3),uu (lim c3 0),uu (lim c3 1),uu (lim c3 2),uu (lim c3 3)] 51] (fun zx=> .int .i64 zx.1) (fun zx=> [bk sb #[uu (lim zx.2.1 0),uu (lim zx.2.1 1),uu (lim zx.2.1 2),uu (lim zx.2.1 3),uu (lim zx.2.2.1 0),uu (lim zx.2.2.1 1),uu (lim zx.2.2.1 2),uu (lim zx.2.2.1 3),uu (lim zx.2.2.2.1 0),uu (lim zx.2.2.2.1 1),uu (lim zx.2.2.2.1 2),uu (lim zx.2.2.2.1 3),uu (lim zx.2.2.2.2 0),uu (lim zx.2.2.2.2 1),uu (lim zx.2.2.2.2 2),uu (lim zx.2.2.2.2 3)] 51]) (fun zx=>(okS zx.2/\zx=cRepay (((num (vI c0)),(num (vI c1)),(num (vI c2)),(num (vI c3))):ST) (num (vI n))))
set_option maxRecDepth 100000 in
theorem pool_pass1_vc (sb:Nat) (c0 c1 c2 c3 n:Int):pool_pass1_A sb c0 c1 c2 c3 n (fun za zh zv zu zp=>codeW Try.prog 17 none 2000 none (bodyOf Try.f137) (.reg [.sem [.nw 1],S0] (.reg [S0, .sem (rds 4 1), .callw [0] [0] pool_take1_C,S0] (.reg [S0,S0] (.cond (.reg [S0,S0] (.done)) (.reg [S0, .sem (rds 4 1), .callw [0] [0] pool_put0_C,S0] (.done))))))
    (init za zh) (finW Try.prog Try.f137 [] [0] (X:=Int×ST) zv zu zp))=
    (∀b1:Nat,rdQ 4 b1 (pool_take1_K sb c0 c1 c2 c3 n (fun x2=>((x2.1 !=(0:Int))=true->pool_pass1_Q sb c0 c1 c2 c3 n (Value.int .i64 x2.1) (bk sb #[uu (lim (num (vI c0)) 0),uu (lim (num (vI c0)) 1),uu (lim (num (vI c0)) 2),uu (lim (num (vI c0)) 3),uu (lim x2.2 0),uu (lim x2.2 1),uu (lim x2.2 2),uu (lim x2.2 3),uu (lim (num (vI c2)) 0),uu (lim (num (vI c2)) 1),uu (lim (num (vI c2)) 2),uu (lim (num (vI c2)) 3),uu (lim (num (vI c3)) 0),uu (lim (num (vI c3)) 1),uu (lim (num (vI c3)) 2),uu (lim (num (vI c3)) 3)] 51))/\((x2.1 !=(0:Int))=false->rdQ 4 b1 (pool_put0_K sb (num (vI c0)) x2.2 (num (vI c2)) (num (vI c3)) n (fun x3=>pool_pass1_Q sb c0 c1 c2 c3 n (Value.int .i64 x3.1) (bk sb #[uu (lim x3.2 0),uu (lim x3.2 1),uu (lim x3.2 2),uu (lim x3.2 3),uu (lim (num (vI x2.2)) 0),uu (lim (num (vI x2.2)) 1),uu (lim (num (vI x2.2)) 2),uu (lim (num (vI x2.2)) 3),uu (lim (num (vI (num (vI c2)))) 0),uu (lim (num (vI (num (vI c2)))) 1),uu (lim (num (vI (num (vI c2)))) 2),uu (lim (num (vI (num (vI c2)))) 3),uu (lim (num (vI (num (vI c3)))) 0),uu (lim (num (vI (num (vI c3)))) 1),uu (lim (num (vI (num (vI c3)))) 2),uu (lim (num (vI (num (vI c3)))) 3)] 51))))))):=by kernel_rfl
set_option maxRecDepth 100000 in
theorem pool_pass1 (sb:Nat) (c0 c1 c2 c3 n:Int) (r_c0:R4 c0) (r_c1:R4 c1) (r_c2:R4 c2) (r_c3:R4 c3) (r_n:R4 n):pool_pass1_A sb c0 c1 c2 c3 n (fun za zh zv zu zp=>CallT Try.prog 137 za zh (Int×ST) zv zu zp):=by
  refine call_of (c:=bodyOf Try.f137) (n:=17) (fn:=Try.f137) Try.mixed Try.func137 (by kernel_rfl) (by kernel_rfl) (by kernel_rfl) 2000 _ [] [0] rfl rfl (Eq.mpr (pool_pass1_vc sb c0 c1 c2 c3 n) ?_)
  intro b1
  refine rdQ_mk 4 _ (pool_take1_m sb c0 c1 c2 c3 n (fun x2 rh1_2 h1=> ?_))
  have hy:=h1
  refine ⟨fun h2=> ?_,fun h2=> ?_⟩
  · have hz:=(bne_iff_ne.1 h2)
    exact ⟨(x2.1,((num (vI c0)),x2.2,(num (vI c2)),(num (vI c3)))),⟨⟨by first | assumption | exact R4_num _,by first | assumption | exact R4_num _,by first | assumption | exact R4_num _,by first | assumption | exact R4_num _⟩,by simp only [num_vI r_c0,num_vI r_c1,num_vI r_c2,num_vI r_c3,num_vI r_n,num_vI (n:=x2.2) (by assumption)];exact (cRepay_no (s:=(c0,c1,c2,c3)) hy hz).symm⟩,rfl,rfl,trivial⟩
  refine rdQ_mk 4 _ (pool_put0_m sb (num (vI c0)) x2.2 (num (vI c2)) (num (vI c3)) n (fun x3 rh3_2 h3=> ?_) (r_c0:=R4_num _) (r_c2:=R4_num _) (r_c3:=R4_num _))
  have hz2:=h3
  try simp only [num_vI r_c0,num_vI r_c1,num_vI r_c2,num_vI r_c3,num_vI r_n] at hz2
  have hz:=(bne_eq_false_iff_eq.1 h2)
  exact ⟨(x3.1,(x3.2,(num (vI x2.2)),(num (vI (num (vI c2)))),(num (vI (num (vI c3)))))),⟨⟨by first | assumption | exact R4_num _,by first | assumption | exact R4_num _,by first | assumption | exact R4_num _,by first | assumption | exact R4_num _⟩,by simp only [num_vI r_c0,num_vI r_c1,num_vI r_c2,num_vI r_c3,num_vI r_n,num_vI (n:=x2.2) (by assumption)];exact (cRepay_ok (s:=(c0,c1,c2,c3)) hy hz hz2).symm⟩,rfl,rfl,trivial⟩
abbrev pool_pass1_K (sb:Nat) (c0 c1 c2 c3 n:Int) (KK:(Int×ST)->Prop):Prop:=pool_pass1_A sb c0 c1 c2 c3 n (fun za zh zv zu zp=>callQ Try.prog 137 za zh (Int×ST) zv zu zp KK)
theorem pool_pass1_m (sb:Nat) (c0 c1 c2 c3 n:Int) {KK:(Int×ST)->Prop} (kont: ∀zx:Int×ST,okS zx.2->(zx=cRepay ((c0,c1,c2,c3):ST) n)->KK zx) (r_c0:R4 c0:=by assumption) (r_c1:R4 c1:=by assumption) (r_c2:R4 c2:=by assumption) (r_c3:R4 c3:=by assumption) (r_n:R4 n:=by assumption):pool_pass1_K sb c0 c1 c2 c3 n KK:=callQ_mk (pool_pass1 sb c0 c1 c2 c3 n r_c0 r_c1 r_c2 r_c3 r_n) (⟨_,cRepay_R ⟨R4_num _,R4_num _,R4_num _,R4_num _⟩ (R4_num _),rfl⟩) fun zx hz=>by
  obtain ⟨rhz_2,hz⟩:=hz
  try simp only [num_vI (n:=c0) r_c0,num_vI (n:=c1) r_c1,num_vI (n:=c2) r_c2,num_vI (n:=c3) r_c3,num_vI (n:=n) r_n] at hz
  exact kont zx rhz_2 hz
noncomputable def pool_Gain_1_C:List Value->List Slot->Ctr:=fun vs hs=>⟨Int×ST,fun zx=> .int .i64 zx.1,fun zx=> [.blk (vblk (varg vs 1)) (.cells #[uu (lim zx.2.1 0),uu (lim zx.2.1 1),uu (lim zx.2.1 2),uu (lim zx.2.1 3),uu (lim zx.2.2.1 0),uu (lim zx.2.2.1 1),uu (lim zx.2.2.1 2),uu (lim zx.2.2.1 3),uu (lim zx.2.2.2.1 0),uu (lim zx.2.2.2.1 1),uu (lim zx.2.2.2.1 2),uu (lim zx.2.2.2.1 3),uu (lim zx.2.2.2.2 0),uu (lim zx.2.2.2.2 1),uu (lim zx.2.2.2.2 2),uu (lim zx.2.2.2.2 3)] 51 (0,0)), .blk (sblk (sarg hs 1)) (.cells #[uu (lim (num (.agg (scells (sarg hs 1)))) 0),uu (lim (num (.agg (scells (sarg hs 1)))) 1),uu (lim (num (.agg (scells (sarg hs 1)))) 2),uu (lim (num (.agg (scells (sarg hs 1)))) 3)] 25 (0,0))],fun zx=>okS zx.2/\zx=cGain (((num (.agg #[cell (.agg (scells (sarg hs 0))) 0,cell (.agg (scells (sarg hs 0))) 1,cell (.agg (scells (sarg hs 0))) 2,cell (.agg (scells (sarg hs 0))) 3])),(num (.agg #[cell (.agg (scells (sarg hs 0))) 4,cell (.agg (scells (sarg hs 0))) 5,cell (.agg (scells (sarg hs 0))) 6,cell (.agg (scells (sarg hs 0))) 7])),(num (.agg #[cell (.agg (scells (sarg hs 0))) 8,cell (.agg (scells (sarg hs 0))) 9,cell (.agg (scells (sarg hs 0))) 10,cell (.agg (scells (sarg hs 0))) 11])),(num (.agg #[cell (.agg (scells (sarg hs 0))) 12,cell (.agg (scells (sarg hs 0))) 13,cell (.agg (scells (sarg hs 0))) 14,cell (.agg (scells (sarg hs 0))) 15]))):ST) (num (.agg (scells (sarg hs 1))))⟩
abbrev pool_Gain_1_Q (sb cb:Nat) (c0 c1 c2 c3 n:Int) (zv:Value) (zs0:Slot) (zs1:Slot):Prop:= ∃zx:Int×ST,(okS zx.2/\zx=cGain (((num (vI c0)),(num (vI c1)),(num (vI c2)),(num (vI c3))):ST) (num (vI n)))/\zv= .int .i64 zx.1/\zs0=bk sb #[uu (lim zx.2.1 0),uu (lim zx.2.1 1),uu (lim zx.2.1 2),uu (lim zx.2.1 3),uu (lim zx.2.2.1 0),uu (lim zx.2.2.1 1),uu (lim zx.2.2.1 2),uu (lim zx.2.2.1 3),uu (lim zx.2.2.2.1 0),uu (lim zx.2.2.2.1 1),uu (lim zx.2.2.2.1 2),uu (lim zx.2.2.2.1 3),uu (lim zx.2.2.2.2 0),uu (lim zx.2.2.2.2 1),uu (lim zx.2.2.2.2 2),uu (lim zx.2.2.2.2 3)] 51/\zs1=bk cb (nC (num (vI n))) 25/\True
abbrev pool_Gain_1_A (sb cb:Nat) (c0 c1 c2 c3 n:Int) (zF:SF (Int×ST)):Prop:=zF #[pp sb 0,pp cb 0] [bk sb #[uu (lim c0 0),uu (lim c0 1),uu (lim c0 2),uu (lim c0 3),uu (lim c1 0),uu (lim c1 1),uu (lim c1 2),uu (lim c1 3),uu (lim c2 0),uu (lim c2 1),uu (lim c2 2),uu (lim c2 3),uu (lim c3 0),uu (lim c3 1),uu (lim c3 2),uu (lim c3 3)] 51,bk cb (nC n) 25] (fun zx=> .int .i64 zx.1) (fun zx=> [bk sb #[uu (lim zx.2.1 0),uu (lim zx.2.1 1),uu (lim zx.2.1 2),uu (lim zx.2.1 3),uu (lim zx.2.2.1 0),uu (lim zx.2.2.1 1),uu (lim zx.2.2.1 2),uu (lim zx.2.2.1 3),uu (lim zx.2.2.2.1 0),uu (lim zx.2.2.2.1 1),uu (lim zx.2.2.2.1 2),uu (lim zx.2.2.2.1 3),uu (lim zx.2.2.2.2 0),uu (lim zx.2.2.2.2 1),uu (lim zx.2.2.2.2 2),uu (lim zx.2.2.2.2 3)] 51,bk cb (nC (num (vI n))) 25]) (fun zx=>(okS zx.2/\zx=cGain (((num (vI c0)),(num (vI c1)),(num (vI c2)),(num (vI c3))):ST) (num (vI n))))
set_option maxRecDepth 100000 in
theorem pool_Gain_1_vc (sb cb:Nat) (c0 c1 c2 c3 n:Int):pool_Gain_1_A sb cb c0 c1 c2 c3 n (fun za zh zv zu zp=>codeW Try.prog 23 none 2000 none (bodyOf Try.f145) (.reg [S0] (.reg [S0,S0, .sem (rds 16 0), .callr [] pool_assets_C, .sem (rds 4 1), .callr [] huge_Add_C,S0,S0,S0, .sem [.nw 2], .sem (wrs 4 2),S0] (.reg [S0,S0] (.cond (.reg [S0,S0] (.done)) (.reg [S0,S0,S0, .sem (rds 4 1), .callw [0] [0] pool_put0_C,S0] (.done))))))
    (init za zh) (finW Try.prog Try.f145 [] [0,1] (X:=Int×ST) zv zu zp))=
    (rdQ 16 sb (pool_assets_K c0 c1 c2 c3 (fun x1=>rdQ 4 cb (huge_Add_K x1 n (fun x2=> ∀b3:Nat,rdQ 4 b3 (((x2.2 !=(0:Int))=true->pool_Gain_1_Q sb cb c0 c1 c2 c3 n (Value.int .i64 x2.2) (bk sb #[uu (lim c0 0),uu (lim c0 1),uu (lim c0 2),uu (lim c0 3),uu (lim c1 0),uu (lim c1 1),uu (lim c1 2),uu (lim c1 3),uu (lim c2 0),uu (lim c2 1),uu (lim c2 2),uu (lim c2 3),uu (lim c3 0),uu (lim c3 1),uu (lim c3 2),uu (lim c3 3)] 51) (bk cb (nC n) 25))/\((x2.2 !=(0:Int))=false->rdQ 4 cb (pool_put0_K sb c0 c1 c2 c3 n (fun x4=>pool_Gain_1_Q sb cb c0 c1 c2 c3 n (Value.int .i64 x4.1) (bk sb #[uu (lim x4.2 0),uu (lim x4.2 1),uu (lim x4.2 2),uu (lim x4.2 3),uu (lim (num (vI c1)) 0),uu (lim (num (vI c1)) 1),uu (lim (num (vI c1)) 2),uu (lim (num (vI c1)) 3),uu (lim (num (vI c2)) 0),uu (lim (num (vI c2)) 1),uu (lim (num (vI c2)) 2),uu (lim (num (vI c2)) 3),uu (lim (num (vI c3)) 0),uu (lim (num (vI c3)) 1),uu (lim (num (vI c3)) 2),uu (lim (num (vI c3)) 3)] 51) (bk cb (nC n) 25)))))))))):=by kernel_rfl
set_option maxRecDepth 100000 in
theorem pool_Gain_1 (sb cb:Nat) (c0 c1 c2 c3 n:Int) (r_c0:R4 c0) (r_c1:R4 c1) (r_c2:R4 c2) (r_c3:R4 c3) (r_n:R4 n):pool_Gain_1_A sb cb c0 c1 c2 c3 n (fun za zh zv zu zp=>CallT Try.prog 145 za zh (Int×ST) zv zu zp):=by
  refine call_of (c:=bodyOf Try.f145) (n:=23) (fn:=Try.f145) Try.mixed Try.func145 (by kernel_rfl) (by kernel_rfl) (by kernel_rfl) 2000 _ [] [0,1] rfl rfl (Eq.mpr (pool_Gain_1_vc sb cb c0 c1 c2 c3 n) ?_)
  refine rdQ_mk 16 _ (pool_assets_m c0 c1 c2 c3 (fun x1 rh1_ h1=> ?_))
  have ha:=h1
  refine rdQ_mk 4 _ (huge_Add_m x1 n (fun x2 rh2_1 h2=> ?_))
  have hx:=h2
  intro b3
  refine rdQ_mk 4 _ ⟨fun h3=> ?_,fun h3=> ?_⟩
  · have hz:=(bne_iff_ne.1 h3)
    exact ⟨(x2.2,(c0,c1,c2,c3)),⟨⟨by first | assumption | exact R4_num _,by first | assumption | exact R4_num _,by first | assumption | exact R4_num _,by first | assumption | exact R4_num _⟩,by simp only [num_vI r_c0,num_vI r_c1,num_vI r_c2,num_vI r_c3,num_vI r_n];exact (cGain_no (s:=(c0,c1,c2,c3)) ha hx hz).symm⟩,rfl,rfl,(by simp only [num_vI r_n]),trivial⟩
  refine rdQ_mk 4 _ (pool_put0_m sb c0 c1 c2 c3 n (fun x4 rh4_2 h4=> ?_))
  have hy:=h4
  have hz:=(bne_eq_false_iff_eq.1 h3)
  exact ⟨(x4.1,(x4.2,(num (vI c1)),(num (vI c2)),(num (vI c3)))),⟨⟨by first | assumption | exact R4_num _,by first | assumption | exact R4_num _,by first | assumption | exact R4_num _,by first | assumption | exact R4_num _⟩,by simp only [num_vI r_c0,num_vI r_c1,num_vI r_c2,num_vI r_c3,num_vI r_n];exact (cGain_ok (s:=(c0,c1,c2,c3)) ha hx hz hy).symm⟩,rfl,rfl,(by simp only [num_vI r_n]),trivial⟩
abbrev pool_Gain_1_K (sb cb:Nat) (c0 c1 c2 c3 n:Int) (KK:(Int×ST)->Prop):Prop:=pool_Gain_1_A sb cb c0 c1 c2 c3 n (fun za zh zv zu zp=>callQ Try.prog 145 za zh (Int×ST) zv zu zp KK)
theorem pool_Gain_1_m (sb cb:Nat) (c0 c1 c2 c3 n:Int) {KK:(Int×ST)->Prop} (kont: ∀zx:Int×ST,okS zx.2->(zx=cGain ((c0,c1,c2,c3):ST) n)->KK zx) (r_c0:R4 c0:=by assumption) (r_c1:R4 c1:=by assumption) (r_c2:R4 c2:=by assumption) (r_c3:R4 c3:=by assumption) (r_n:R4 n:=by assumption):pool_Gain_1_K sb cb c0 c1 c2 c3 n KK:=callQ_mk (pool_Gain_1 sb cb c0 c1 c2 c3 n r_c0 r_c1 r_c2 r_c3 r_n) (⟨_,cGain_R ⟨R4_num _,R4_num _,R4_num _,R4_num _⟩ (R4_num _),rfl⟩) fun zx hz=>by
  obtain ⟨rhz_2,hz⟩:=hz
  try simp only [num_vI (n:=c0) r_c0,num_vI (n:=c1) r_c1,num_vI (n:=c2) r_c2,num_vI (n:=c3) r_c3,num_vI (n:=n) r_n] at hz
  exact kont zx rhz_2 hz
noncomputable def pool_Reserve_1_C:List Value->List Slot->Ctr:=fun vs hs=>⟨Int×ST,fun zx=> .int .i64 zx.1,fun zx=> [.blk (vblk (varg vs 1)) (.cells #[uu (lim zx.2.1 0),uu (lim zx.2.1 1),uu (lim zx.2.1 2),uu (lim zx.2.1 3),uu (lim zx.2.2.1 0),uu (lim zx.2.2.1 1),uu (lim zx.2.2.1 2),uu (lim zx.2.2.1 3),uu (lim zx.2.2.2.1 0),uu (lim zx.2.2.2.1 1),uu (lim zx.2.2.2.1 2),uu (lim zx.2.2.2.1 3),uu (lim zx.2.2.2.2 0),uu (lim zx.2.2.2.2 1),uu (lim zx.2.2.2.2 2),uu (lim zx.2.2.2.2 3)] 51 (0,0)), .blk (sblk (sarg hs 1)) (.cells #[uu (lim (num (.agg (scells (sarg hs 1)))) 0),uu (lim (num (.agg (scells (sarg hs 1)))) 1),uu (lim (num (.agg (scells (sarg hs 1)))) 2),uu (lim (num (.agg (scells (sarg hs 1)))) 3)] 25 (0,0))],fun zx=>okS zx.2/\zx=cRes (((num (.agg #[cell (.agg (scells (sarg hs 0))) 0,cell (.agg (scells (sarg hs 0))) 1,cell (.agg (scells (sarg hs 0))) 2,cell (.agg (scells (sarg hs 0))) 3])),(num (.agg #[cell (.agg (scells (sarg hs 0))) 4,cell (.agg (scells (sarg hs 0))) 5,cell (.agg (scells (sarg hs 0))) 6,cell (.agg (scells (sarg hs 0))) 7])),(num (.agg #[cell (.agg (scells (sarg hs 0))) 8,cell (.agg (scells (sarg hs 0))) 9,cell (.agg (scells (sarg hs 0))) 10,cell (.agg (scells (sarg hs 0))) 11])),(num (.agg #[cell (.agg (scells (sarg hs 0))) 12,cell (.agg (scells (sarg hs 0))) 13,cell (.agg (scells (sarg hs 0))) 14,cell (.agg (scells (sarg hs 0))) 15]))):ST) (num (.agg (scells (sarg hs 1))))⟩
abbrev pool_Reserve_1_Q (sb cb:Nat) (c0 c1 c2 c3 n:Int) (zv:Value) (zs0:Slot) (zs1:Slot):Prop:= ∃zx:Int×ST,(okS zx.2/\zx=cRes (((num (vI c0)),(num (vI c1)),(num (vI c2)),(num (vI c3))):ST) (num (vI n)))/\zv= .int .i64 zx.1/\zs0=bk sb #[uu (lim zx.2.1 0),uu (lim zx.2.1 1),uu (lim zx.2.1 2),uu (lim zx.2.1 3),uu (lim zx.2.2.1 0),uu (lim zx.2.2.1 1),uu (lim zx.2.2.1 2),uu (lim zx.2.2.1 3),uu (lim zx.2.2.2.1 0),uu (lim zx.2.2.2.1 1),uu (lim zx.2.2.2.1 2),uu (lim zx.2.2.2.1 3),uu (lim zx.2.2.2.2 0),uu (lim zx.2.2.2.2 1),uu (lim zx.2.2.2.2 2),uu (lim zx.2.2.2.2 3)] 51/\zs1=bk cb (nC (num (vI n))) 25/\True
abbrev pool_Reserve_1_A (sb cb:Nat) (c0 c1 c2 c3 n:Int) (zF:SF (Int×ST)):Prop:=zF #[pp sb 0,pp cb 0] [bk sb #[uu (lim c0 0),uu (lim c0 1),uu (lim c0 2),uu (lim c0 3),uu (lim c1 0),uu (lim c1 1),uu (lim c1 2),uu (lim c1 3),uu (lim c2 0),uu (lim c2 1),uu (lim c2 2),uu (lim c2 3),uu (lim c3 0),uu (lim c3 1),uu (lim c3 2),uu (lim c3 3)] 51,bk cb (nC n) 25] (fun zx=> .int .i64 zx.1) (fun zx=> [bk sb #[uu (lim zx.2.1 0),uu (lim zx.2.1 1),uu (lim zx.2.1 2),uu (lim zx.2.1 3),uu (lim zx.2.2.1 0),uu (lim zx.2.2.1 1),uu (lim zx.2.2.1 2),uu (lim zx.2.2.1 3),uu (lim zx.2.2.2.1 0),uu (lim zx.2.2.2.1 1),uu (lim zx.2.2.2.1 2),uu (lim zx.2.2.2.1 3),uu (lim zx.2.2.2.2 0),uu (lim zx.2.2.2.2 1),uu (lim zx.2.2.2.2 2),uu (lim zx.2.2.2.2 3)] 51,bk cb (nC (num (vI n))) 25]) (fun zx=>(okS zx.2/\zx=cRes (((num (vI c0)),(num (vI c1)),(num (vI c2)),(num (vI c3))):ST) (num (vI n))))
set_option maxRecDepth 100000 in
theorem pool_Reserve_1_vc (sb cb:Nat) (c0 c1 c2 c3 n:Int):pool_Reserve_1_A sb cb c0 c1 c2 c3 n (fun za zh zv zu zp=>codeW Try.prog 9 none 2000 none (bodyOf Try.f147) (.reg [S0] (.reg [S0,S0,S0, .sem (rds 4 1), .callw [0] [0] pool_put2_C,S0] (.done)))
    (init za zh) (finW Try.prog Try.f147 [] [0,1] (X:=Int×ST) zv zu zp))=
    (rdQ 4 cb (pool_put2_K sb c0 c1 c2 c3 n (fun x1=>pool_Reserve_1_Q sb cb c0 c1 c2 c3 n (Value.int .i64 x1.1) (bk sb #[uu (lim (num (vI c0)) 0),uu (lim (num (vI c0)) 1),uu (lim (num (vI c0)) 2),uu (lim (num (vI c0)) 3),uu (lim (num (vI c1)) 0),uu (lim (num (vI c1)) 1),uu (lim (num (vI c1)) 2),uu (lim (num (vI c1)) 3),uu (lim x1.2 0),uu (lim x1.2 1),uu (lim x1.2 2),uu (lim x1.2 3),uu (lim (num (vI c3)) 0),uu (lim (num (vI c3)) 1),uu (lim (num (vI c3)) 2),uu (lim (num (vI c3)) 3)] 51) (bk cb (nC n) 25)))):=by kernel_rfl
set_option maxRecDepth 100000 in
theorem pool_Reserve_1 (sb cb:Nat) (c0 c1 c2 c3 n:Int) (r_c0:R4 c0) (r_c1:R4 c1) (r_c2:R4 c2) (r_c3:R4 c3) (r_n:R4 n):pool_Reserve_1_A sb cb c0 c1 c2 c3 n (fun za zh zv zu zp=>CallT Try.prog 147 za zh (Int×ST) zv zu zp):=by
  refine call_of (c:=bodyOf Try.f147) (n:=9) (fn:=Try.f147) Try.mixed Try.func147 (by kernel_rfl) (by kernel_rfl) (by kernel_rfl) 2000 _ [] [0,1] rfl rfl (Eq.mpr (pool_Reserve_1_vc sb cb c0 c1 c2 c3 n) ?_)
  refine rdQ_mk 4 _ (pool_put2_m sb c0 c1 c2 c3 n (fun x1 rh1_2 h1=> ?_))
  have hy:=h1
  exact ⟨(x1.1,((num (vI c0)),(num (vI c1)),x1.2,(num (vI c3)))),⟨⟨by first | assumption | exact R4_num _,by first | assumption | exact R4_num _,by first | assumption | exact R4_num _,by first | assumption | exact R4_num _⟩,by simp only [num_vI r_c0,num_vI r_c1,num_vI r_c2,num_vI r_c3,num_vI r_n];unfold cRes;rw [hy]⟩,rfl,rfl,(by simp only [num_vI r_n]),trivial⟩
abbrev pool_Reserve_1_K (sb cb:Nat) (c0 c1 c2 c3 n:Int) (KK:(Int×ST)->Prop):Prop:=pool_Reserve_1_A sb cb c0 c1 c2 c3 n (fun za zh zv zu zp=>callQ Try.prog 147 za zh (Int×ST) zv zu zp KK)
theorem pool_Reserve_1_m (sb cb:Nat) (c0 c1 c2 c3 n:Int) {KK:(Int×ST)->Prop} (kont: ∀zx:Int×ST,okS zx.2->(zx=cRes ((c0,c1,c2,c3):ST) n)->KK zx) (r_c0:R4 c0:=by assumption) (r_c1:R4 c1:=by assumption) (r_c2:R4 c2:=by assumption) (r_c3:R4 c3:=by assumption) (r_n:R4 n:=by assumption):pool_Reserve_1_K sb cb c0 c1 c2 c3 n KK:=callQ_mk (pool_Reserve_1 sb cb c0 c1 c2 c3 n r_c0 r_c1 r_c2 r_c3 r_n) (⟨_,cRes_R ⟨R4_num _,R4_num _,R4_num _,R4_num _⟩ (R4_num _),rfl⟩) fun zx hz=>by
  obtain ⟨rhz_2,hz⟩:=hz
  try simp only [num_vI (n:=c0) r_c0,num_vI (n:=c1) r_c1,num_vI (n:=c2) r_c2,num_vI (n:=c3) r_c3,num_vI (n:=n) r_n] at hz
  exact kont zx rhz_2 hz
noncomputable def pool_Release_1_C:List Value->List Slot->Ctr:=fun vs hs=>⟨Int×ST,fun zx=> .int .i64 zx.1,fun zx=> [.blk (vblk (varg vs 1)) (.cells #[uu (lim zx.2.1 0),uu (lim zx.2.1 1),uu (lim zx.2.1 2),uu (lim zx.2.1 3),uu (lim zx.2.2.1 0),uu (lim zx.2.2.1 1),uu (lim zx.2.2.1 2),uu (lim zx.2.2.1 3),uu (lim zx.2.2.2.1 0),uu (lim zx.2.2.2.1 1),uu (lim zx.2.2.2.1 2),uu (lim zx.2.2.2.1 3),uu (lim zx.2.2.2.2 0),uu (lim zx.2.2.2.2 1),uu (lim zx.2.2.2.2 2),uu (lim zx.2.2.2.2 3)] 51 (0,0)), .blk (sblk (sarg hs 1)) (.cells #[uu (lim (num (.agg (scells (sarg hs 1)))) 0),uu (lim (num (.agg (scells (sarg hs 1)))) 1),uu (lim (num (.agg (scells (sarg hs 1)))) 2),uu (lim (num (.agg (scells (sarg hs 1)))) 3)] 25 (0,0))],fun zx=>okS zx.2/\zx=cRel (((num (.agg #[cell (.agg (scells (sarg hs 0))) 0,cell (.agg (scells (sarg hs 0))) 1,cell (.agg (scells (sarg hs 0))) 2,cell (.agg (scells (sarg hs 0))) 3])),(num (.agg #[cell (.agg (scells (sarg hs 0))) 4,cell (.agg (scells (sarg hs 0))) 5,cell (.agg (scells (sarg hs 0))) 6,cell (.agg (scells (sarg hs 0))) 7])),(num (.agg #[cell (.agg (scells (sarg hs 0))) 8,cell (.agg (scells (sarg hs 0))) 9,cell (.agg (scells (sarg hs 0))) 10,cell (.agg (scells (sarg hs 0))) 11])),(num (.agg #[cell (.agg (scells (sarg hs 0))) 12,cell (.agg (scells (sarg hs 0))) 13,cell (.agg (scells (sarg hs 0))) 14,cell (.agg (scells (sarg hs 0))) 15]))):ST) (num (.agg (scells (sarg hs 1))))⟩
abbrev pool_Release_1_Q (sb cb:Nat) (c0 c1 c2 c3 n:Int) (zv:Value) (zs0:Slot) (zs1:Slot):Prop:= ∃zx:Int×ST,(okS zx.2/\zx=cRel (((num (vI c0)),(num (vI c1)),(num (vI c2)),(num (vI c3))):ST) (num (vI n)))/\zv= .int .i64 zx.1/\zs0=bk sb #[uu (lim zx.2.1 0),uu (lim zx.2.1 1),uu (lim zx.2.1 2),uu (lim zx.2.1 3),uu (lim zx.2.2.1 0),uu (lim zx.2.2.1 1),uu (lim zx.2.2.1 2),uu (lim zx.2.2.1 3),uu (lim zx.2.2.2.1 0),uu (lim zx.2.2.2.1 1),uu (lim zx.2.2.2.1 2),uu (lim zx.2.2.2.1 3),uu (lim zx.2.2.2.2 0),uu (lim zx.2.2.2.2 1),uu (lim zx.2.2.2.2 2),uu (lim zx.2.2.2.2 3)] 51/\zs1=bk cb (nC (num (vI n))) 25/\True
abbrev pool_Release_1_A (sb cb:Nat) (c0 c1 c2 c3 n:Int) (zF:SF (Int×ST)):Prop:=zF #[pp sb 0,pp cb 0] [bk sb #[uu (lim c0 0),uu (lim c0 1),uu (lim c0 2),uu (lim c0 3),uu (lim c1 0),uu (lim c1 1),uu (lim c1 2),uu (lim c1 3),uu (lim c2 0),uu (lim c2 1),uu (lim c2 2),uu (lim c2 3),uu (lim c3 0),uu (lim c3 1),uu (lim c3 2),uu (lim c3 3)] 51,bk cb (nC n) 25] (fun zx=> .int .i64 zx.1) (fun zx=> [bk sb #[uu (lim zx.2.1 0),uu (lim zx.2.1 1),uu (lim zx.2.1 2),uu (lim zx.2.1 3),uu (lim zx.2.2.1 0),uu (lim zx.2.2.1 1),uu (lim zx.2.2.1 2),uu (lim zx.2.2.1 3),uu (lim zx.2.2.2.1 0),uu (lim zx.2.2.2.1 1),uu (lim zx.2.2.2.1 2),uu (lim zx.2.2.2.1 3),uu (lim zx.2.2.2.2 0),uu (lim zx.2.2.2.2 1),uu (lim zx.2.2.2.2 2),uu (lim zx.2.2.2.2 3)] 51,bk cb (nC (num (vI n))) 25]) (fun zx=>(okS zx.2/\zx=cRel (((num (vI c0)),(num (vI c1)),(num (vI c2)),(num (vI c3))):ST) (num (vI n))))
set_option maxRecDepth 100000 in
theorem pool_Release_1_vc (sb cb:Nat) (c0 c1 c2 c3 n:Int):pool_Release_1_A sb cb c0 c1 c2 c3 n (fun za zh zv zu zp=>codeW Try.prog 9 none 2000 none (bodyOf Try.f148) (.reg [S0] (.reg [S0,S0,S0, .sem (rds 4 1), .callw [0] [0] pool_take2_C,S0] (.done)))
    (init za zh) (finW Try.prog Try.f148 [] [0,1] (X:=Int×ST) zv zu zp))=
    (rdQ 4 cb (pool_take2_K sb c0 c1 c2 c3 n (fun x1=>pool_Release_1_Q sb cb c0 c1 c2 c3 n (Value.int .i64 x1.1) (bk sb #[uu (lim (num (vI c0)) 0),uu (lim (num (vI c0)) 1),uu (lim (num (vI c0)) 2),uu (lim (num (vI c0)) 3),uu (lim (num (vI c1)) 0),uu (lim (num (vI c1)) 1),uu (lim (num (vI c1)) 2),uu (lim (num (vI c1)) 3),uu (lim x1.2 0),uu (lim x1.2 1),uu (lim x1.2 2),uu (lim x1.2 3),uu (lim (num (vI c3)) 0),uu (lim (num (vI c3)) 1),uu (lim (num (vI c3)) 2),uu (lim (num (vI c3)) 3)] 51) (bk cb (nC n) 25)))):=by kernel_rfl
set_option maxRecDepth 100000 in
theorem pool_Release_1 (sb cb:Nat) (c0 c1 c2 c3 n:Int) (r_c0:R4 c0) (r_c1:R4 c1) (r_c2:R4 c2) (r_c3:R4 c3) (r_n:R4 n):pool_Release_1_A sb cb c0 c1 c2 c3 n (fun za zh zv zu zp=>CallT Try.prog 148 za zh (Int×ST) zv zu zp):=by
  refine call_of (c:=bodyOf Try.f148) (n:=9) (fn:=Try.f148) Try.mixed Try.func148 (by kernel_rfl) (by kernel_rfl) (by kernel_rfl) 2000 _ [] [0,1] rfl rfl (Eq.mpr (pool_Release_1_vc sb cb c0 c1 c2 c3 n) ?_)
  refine rdQ_mk 4 _ (pool_take2_m sb c0 c1 c2 c3 n (fun x1 rh1_2 h1=> ?_))
  have hy:=h1
  exact ⟨(x1.1,((num (vI c0)),(num (vI c1)),x1.2,(num (vI c3)))),⟨⟨by first | assumption | exact R4_num _,by first | assumption | exact R4_num _,by first | assumption | exact R4_num _,by first | assumption | exact R4_num _⟩,by simp only [num_vI r_c0,num_vI r_c1,num_vI r_c2,num_vI r_c3,num_vI r_n];unfold cRel;rw [hy]⟩,rfl,rfl,(by simp only [num_vI r_n]),trivial⟩
abbrev pool_Release_1_K (sb cb:Nat) (c0 c1 c2 c3 n:Int) (KK:(Int×ST)->Prop):Prop:=pool_Release_1_A sb cb c0 c1 c2 c3 n (fun za zh zv zu zp=>callQ Try.prog 148 za zh (Int×ST) zv zu zp KK)
theorem pool_Release_1_m (sb cb:Nat) (c0 c1 c2 c3 n:Int) {KK:(Int×ST)->Prop} (kont: ∀zx:Int×ST,okS zx.2->(zx=cRel ((c0,c1,c2,c3):ST) n)->KK zx) (r_c0:R4 c0:=by assumption) (r_c1:R4 c1:=by assumption) (r_c2:R4 c2:=by assumption) (r_c3:R4 c3:=by assumption) (r_n:R4 n:=by assumption):pool_Release_1_K sb cb c0 c1 c2 c3 n KK:=callQ_mk (pool_Release_1 sb cb c0 c1 c2 c3 n r_c0 r_c1 r_c2 r_c3 r_n) (⟨_,cRel_R ⟨R4_num _,R4_num _,R4_num _,R4_num _⟩ (R4_num _),rfl⟩) fun zx hz=>by
  obtain ⟨rhz_2,hz⟩:=hz
  try simp only [num_vI (n:=c0) r_c0,num_vI (n:=c1) r_c1,num_vI (n:=c2) r_c2,num_vI (n:=c3) r_c3,num_vI (n:=n) r_n] at hz
  exact kont zx rhz_2 hz
noncomputable def pool_Front_1_C:List Value->List Slot->Ctr:=fun vs hs=>⟨Int×ST,fun zx=> .int .i64 zx.1,fun zx=> [.blk (vblk (varg vs 1)) (.cells #[uu (lim zx.2.1 0),uu (lim zx.2.1 1),uu (lim zx.2.1 2),uu (lim zx.2.1 3),uu (lim zx.2.2.1 0),uu (lim zx.2.2.1 1),uu (lim zx.2.2.1 2),uu (lim zx.2.2.1 3),uu (lim zx.2.2.2.1 0),uu (lim zx.2.2.2.1 1),uu (lim zx.2.2.2.1 2),uu (lim zx.2.2.2.1 3),uu (lim zx.2.2.2.2 0),uu (lim zx.2.2.2.2 1),uu (lim zx.2.2.2.2 2),uu (lim zx.2.2.2.2 3)] 51 (0,0)), .blk (sblk (sarg hs 1)) (.cells #[uu (lim (num (.agg (scells (sarg hs 1)))) 0),uu (lim (num (.agg (scells (sarg hs 1)))) 1),uu (lim (num (.agg (scells (sarg hs 1)))) 2),uu (lim (num (.agg (scells (sarg hs 1)))) 3)] 25 (0,0))],fun zx=>okS zx.2/\zx=cFront (((num (.agg #[cell (.agg (scells (sarg hs 0))) 0,cell (.agg (scells (sarg hs 0))) 1,cell (.agg (scells (sarg hs 0))) 2,cell (.agg (scells (sarg hs 0))) 3])),(num (.agg #[cell (.agg (scells (sarg hs 0))) 4,cell (.agg (scells (sarg hs 0))) 5,cell (.agg (scells (sarg hs 0))) 6,cell (.agg (scells (sarg hs 0))) 7])),(num (.agg #[cell (.agg (scells (sarg hs 0))) 8,cell (.agg (scells (sarg hs 0))) 9,cell (.agg (scells (sarg hs 0))) 10,cell (.agg (scells (sarg hs 0))) 11])),(num (.agg #[cell (.agg (scells (sarg hs 0))) 12,cell (.agg (scells (sarg hs 0))) 13,cell (.agg (scells (sarg hs 0))) 14,cell (.agg (scells (sarg hs 0))) 15]))):ST) (num (.agg (scells (sarg hs 1))))⟩
abbrev pool_Front_1_Q (sb cb:Nat) (c0 c1 c2 c3 n:Int) (zv:Value) (zs0:Slot) (zs1:Slot):Prop:= ∃zx:Int×ST,(okS zx.2/\zx=cFront (((num (vI c0)),(num (vI c1)),(num (vI c2)),(num (vI c3))):ST) (num (vI n)))/\zv= .int .i64 zx.1/\zs0=bk sb #[uu (lim zx.2.1 0),uu (lim zx.2.1 1),uu (lim zx.2.1 2),uu (lim zx.2.1 3),uu (lim zx.2.2.1 0),uu (lim zx.2.2.1 1),uu (lim zx.2.2.1 2),uu (lim zx.2.2.1 3),uu (lim zx.2.2.2.1 0),uu (lim zx.2.2.2.1 1),uu (lim zx.2.2.2.1 2),uu (lim zx.2.2.2.1 3),uu (lim zx.2.2.2.2 0),uu (lim zx.2.2.2.2 1),uu (lim zx.2.2.2.2 2),uu (lim zx.2.2.2.2 3)] 51/\zs1=bk cb (nC (num (vI n))) 25/\True
abbrev pool_Front_1_A (sb cb:Nat) (c0 c1 c2 c3 n:Int) (zF:SF (Int×ST)):Prop:=zF #[pp sb 0,pp cb 0] [bk sb #[uu (lim c0 0),uu (lim c0 1),uu (lim c0 2),uu (lim c0 3),uu (lim c1 0),uu (lim c1 1),uu (lim c1 2),uu (lim c1 3),uu (lim c2 0),uu (lim c2 1),uu (lim c2 2),uu (lim c2 3),uu (lim c3 0),uu (lim c3 1),uu (lim c3 2),uu (lim c3 3)] 51,bk cb (nC n) 25] (fun zx=> .int .i64 zx.1) (fun zx=> [bk sb #[uu (lim zx.2.1 0),uu (lim zx.2.1 1),uu (lim zx.2.1 2),uu (lim zx.2.1 3),uu (lim zx.2.2.1 0),uu (lim zx.2.2.1 1),uu (lim zx.2.2.1 2),uu (lim zx.2.2.1 3),uu (lim zx.2.2.2.1 0),uu (lim zx.2.2.2.1 1),uu (lim zx.2.2.2.1 2),uu (lim zx.2.2.2.1 3),uu (lim zx.2.2.2.2 0),uu (lim zx.2.2.2.2 1),uu (lim zx.2.2.2.2 2),uu (lim zx.2.2.2.2 3)] 51,bk cb (nC (num (vI n))) 25]) (fun zx=>(okS zx.2/\zx=cFront (((num (vI c0)),(num (vI c1)),(num (vI c2)),(num (vI c3))):ST) (num (vI n))))
set_option maxRecDepth 100000 in
theorem pool_Front_1_vc (sb cb:Nat) (c0 c1 c2 c3 n:Int):pool_Front_1_A sb cb c0 c1 c2 c3 n (fun za zh zv zu zp=>codeW Try.prog 12 none 2000 none (bodyOf Try.f136) (.reg [S0] (.reg [S0,S0,S0,S0,S0,S0, .sem (rds 4 1), .callw [0] [0] pool_pass0_C,S0] (.done)))
    (init za zh) (finW Try.prog Try.f136 [] [0,1] (X:=Int×ST) zv zu zp))=
    (rdQ 4 cb (pool_pass0_K sb c0 c1 c2 c3 n (fun x1=>pool_Front_1_Q sb cb c0 c1 c2 c3 n (Value.int .i64 x1.1) (bk sb #[uu (lim x1.2.1 0),uu (lim x1.2.1 1),uu (lim x1.2.1 2),uu (lim x1.2.1 3),uu (lim x1.2.2.1 0),uu (lim x1.2.2.1 1),uu (lim x1.2.2.1 2),uu (lim x1.2.2.1 3),uu (lim x1.2.2.2.1 0),uu (lim x1.2.2.2.1 1),uu (lim x1.2.2.2.1 2),uu (lim x1.2.2.2.1 3),uu (lim x1.2.2.2.2 0),uu (lim x1.2.2.2.2 1),uu (lim x1.2.2.2.2 2),uu (lim x1.2.2.2.2 3)] 51) (bk cb (nC n) 25)))):=by kernel_rfl
set_option maxRecDepth 100000 in
theorem pool_Front_1 (sb cb:Nat) (c0 c1 c2 c3 n:Int) (r_c0:R4 c0) (r_c1:R4 c1) (r_c2:R4 c2) (r_c3:R4 c3) (r_n:R4 n):pool_Front_1_A sb cb c0 c1 c2 c3 n (fun za zh zv zu zp=>CallT Try.prog 136 za zh (Int×ST) zv zu zp):=by
  refine call_of (c:=bodyOf Try.f136) (n:=12) (fn:=Try.f136) Try.mixed Try.func136 (by kernel_rfl) (by kernel_rfl) (by kernel_rfl) 2000 _ [] [0,1] rfl rfl (Eq.mpr (pool_Front_1_vc sb cb c0 c1 c2 c3 n) ?_)
  refine rdQ_mk 4 _ (pool_pass0_m sb c0 c1 c2 c3 n (fun x1 rh1_2 h1=> ?_))
  have rah1:=rh1_2.a;have rbh1:=rh1_2.b;have rch1:=rh1_2.c;have rdh1:=rh1_2.d
  have hy:=h1
  exact ⟨(x1.1,(x1.2.1,x1.2.2.1,x1.2.2.2.1,x1.2.2.2.2)),⟨⟨by first | assumption | exact R4_num _,by first | assumption | exact R4_num _,by first | assumption | exact R4_num _,by first | assumption | exact R4_num _⟩,by simp only [num_vI r_c0,num_vI r_c1,num_vI r_c2,num_vI r_c3,num_vI r_n];exact hy⟩,rfl,rfl,(by simp only [num_vI r_n]),trivial⟩
abbrev pool_Front_1_K (sb cb:Nat) (c0 c1 c2 c3 n:Int) (KK:(Int×ST)->Prop):Prop:=pool_Front_1_A sb cb c0 c1 c2 c3 n (fun za zh zv zu zp=>callQ Try.prog 136 za zh (Int×ST) zv zu zp KK)
theorem pool_Front_1_m (sb cb:Nat) (c0 c1 c2 c3 n:Int) {KK:(Int×ST)->Prop} (kont: ∀zx:Int×ST,okS zx.2->(zx=cFront ((c0,c1,c2,c3):ST) n)->KK zx) (r_c0:R4 c0:=by assumption) (r_c1:R4 c1:=by assumption) (r_c2:R4 c2:=by assumption) (r_c3:R4 c3:=by assumption) (r_n:R4 n:=by assumption):pool_Front_1_K sb cb c0 c1 c2 c3 n KK:=callQ_mk (pool_Front_1 sb cb c0 c1 c2 c3 n r_c0 r_c1 r_c2 r_c3 r_n) (⟨_,cFront_R ⟨R4_num _,R4_num _,R4_num _,R4_num _⟩ (R4_num _),rfl⟩) fun zx hz=>by
  obtain ⟨rhz_2,hz⟩:=hz
  try simp only [num_vI (n:=c0) r_c0,num_vI (n:=c1) r_c1,num_vI (n:=c2) r_c2,num_vI (n:=c3) r_c3,num_vI (n:=n) r_n] at hz
  exact kont zx rhz_2 hz
noncomputable def pool_Repay_1_C:List Value->List Slot->Ctr:=fun vs hs=>⟨Int×ST,fun zx=> .int .i64 zx.1,fun zx=> [.blk (vblk (varg vs 1)) (.cells #[uu (lim zx.2.1 0),uu (lim zx.2.1 1),uu (lim zx.2.1 2),uu (lim zx.2.1 3),uu (lim zx.2.2.1 0),uu (lim zx.2.2.1 1),uu (lim zx.2.2.1 2),uu (lim zx.2.2.1 3),uu (lim zx.2.2.2.1 0),uu (lim zx.2.2.2.1 1),uu (lim zx.2.2.2.1 2),uu (lim zx.2.2.2.1 3),uu (lim zx.2.2.2.2 0),uu (lim zx.2.2.2.2 1),uu (lim zx.2.2.2.2 2),uu (lim zx.2.2.2.2 3)] 51 (0,0)), .blk (sblk (sarg hs 1)) (.cells #[uu (lim (num (.agg (scells (sarg hs 1)))) 0),uu (lim (num (.agg (scells (sarg hs 1)))) 1),uu (lim (num (.agg (scells (sarg hs 1)))) 2),uu (lim (num (.agg (scells (sarg hs 1)))) 3)] 25 (0,0))],fun zx=>okS zx.2/\zx=cRepay (((num (.agg #[cell (.agg (scells (sarg hs 0))) 0,cell (.agg (scells (sarg hs 0))) 1,cell (.agg (scells (sarg hs 0))) 2,cell (.agg (scells (sarg hs 0))) 3])),(num (.agg #[cell (.agg (scells (sarg hs 0))) 4,cell (.agg (scells (sarg hs 0))) 5,cell (.agg (scells (sarg hs 0))) 6,cell (.agg (scells (sarg hs 0))) 7])),(num (.agg #[cell (.agg (scells (sarg hs 0))) 8,cell (.agg (scells (sarg hs 0))) 9,cell (.agg (scells (sarg hs 0))) 10,cell (.agg (scells (sarg hs 0))) 11])),(num (.agg #[cell (.agg (scells (sarg hs 0))) 12,cell (.agg (scells (sarg hs 0))) 13,cell (.agg (scells (sarg hs 0))) 14,cell (.agg (scells (sarg hs 0))) 15]))):ST) (num (.agg (scells (sarg hs 1))))⟩
abbrev pool_Repay_1_Q (sb cb:Nat) (c0 c1 c2 c3 n:Int) (zv:Value) (zs0:Slot) (zs1:Slot):Prop:= ∃zx:Int×ST,(okS zx.2/\zx=cRepay (((num (vI c0)),(num (vI c1)),(num (vI c2)),(num (vI c3))):ST) (num (vI n)))/\zv= .int .i64 zx.1/\zs0=bk sb #[uu (lim zx.2.1 0),uu (lim zx.2.1 1),uu (lim zx.2.1 2),uu (lim zx.2.1 3),uu (lim zx.2.2.1 0),uu (lim zx.2.2.1 1),uu (lim zx.2.2.1 2),uu (lim zx.2.2.1 3),uu (lim zx.2.2.2.1 0),uu (lim zx.2.2.2.1 1),uu (lim zx.2.2.2.1 2),uu (lim zx.2.2.2.1 3),uu (lim zx.2.2.2.2 0),uu (lim zx.2.2.2.2 1),uu (lim zx.2.2.2.2 2),uu (lim zx.2.2.2.2 3)] 51/\zs1=bk cb (nC (num (vI n))) 25/\True
abbrev pool_Repay_1_A (sb cb:Nat) (c0 c1 c2 c3 n:Int) (zF:SF (Int×ST)):Prop:=zF #[pp sb 0,pp cb 0] [bk sb #[uu (lim c0 0),uu (lim c0 1),uu (lim c0 2),uu (lim c0 3),uu (lim c1 0),uu (lim c1 1),uu (lim c1 2),uu (lim c1 3),uu (lim c2 0),uu (lim c2 1),uu (lim c2 2),uu (lim c2 3),uu (lim c3 0),uu (lim c3 1),uu (lim c3 2),uu (lim c3 3)] 51,bk cb (nC n) 25] (fun zx=> .int .i64 zx.1) (fun zx=> [bk sb #[uu (lim zx.2.1 0),uu (lim zx.2.1 1),uu (lim zx.2.1 2),uu (lim zx.2.1 3),uu (lim zx.2.2.1 0),uu (lim zx.2.2.1 1),uu (lim zx.2.2.1 2),uu (lim zx.2.2.1 3),uu (lim zx.2.2.2.1 0),uu (lim zx.2.2.2.1 1),uu (lim zx.2.2.2.1 2),uu (lim zx.2.2.2.1 3),uu (lim zx.2.2.2.2 0),uu (lim zx.2.2.2.2 1),uu (lim zx.2.2.2.2 2),uu (lim zx.2.2.2.2 3)] 51,bk cb (nC (num (vI n))) 25]) (fun zx=>(okS zx.2/\zx=cRepay (((num (vI c0)),(num (vI c1)),(num (vI c2)),(num (vI c3))):ST) (num (vI n))))
set_option maxRecDepth 100000 in
theorem pool_Repay_1_vc (sb cb:Nat) (c0 c1 c2 c3 n:Int):pool_Repay_1_A sb cb c0 c1 c2 c3 n (fun za zh zv zu zp=>codeW Try.prog 12 none 2000 none (bodyOf Try.f150) (.reg [S0] (.reg [S0,S0,S0,S0,S0,S0, .sem (rds 4 1), .callw [0] [0] pool_pass1_C,S0] (.done)))
    (init za zh) (finW Try.prog Try.f150 [] [0,1] (X:=Int×ST) zv zu zp))=
    (rdQ 4 cb (pool_pass1_K sb c0 c1 c2 c3 n (fun x1=>pool_Repay_1_Q sb cb c0 c1 c2 c3 n (Value.int .i64 x1.1) (bk sb #[uu (lim x1.2.1 0),uu (lim x1.2.1 1),uu (lim x1.2.1 2),uu (lim x1.2.1 3),uu (lim x1.2.2.1 0),uu (lim x1.2.2.1 1),uu (lim x1.2.2.1 2),uu (lim x1.2.2.1 3),uu (lim x1.2.2.2.1 0),uu (lim x1.2.2.2.1 1),uu (lim x1.2.2.2.1 2),uu (lim x1.2.2.2.1 3),uu (lim x1.2.2.2.2 0),uu (lim x1.2.2.2.2 1),uu (lim x1.2.2.2.2 2),uu (lim x1.2.2.2.2 3)] 51) (bk cb (nC n) 25)))):=by kernel_rfl
set_option maxRecDepth 100000 in
theorem pool_Repay_1 (sb cb:Nat) (c0 c1 c2 c3 n:Int) (r_c0:R4 c0) (r_c1:R4 c1) (r_c2:R4 c2) (r_c3:R4 c3) (r_n:R4 n):pool_Repay_1_A sb cb c0 c1 c2 c3 n (fun za zh zv zu zp=>CallT Try.prog 150 za zh (Int×ST) zv zu zp):=by
  refine call_of (c:=bodyOf Try.f150) (n:=12) (fn:=Try.f150) Try.mixed Try.func150 (by kernel_rfl) (by kernel_rfl) (by kernel_rfl) 2000 _ [] [0,1] rfl rfl (Eq.mpr (pool_Repay_1_vc sb cb c0 c1 c2 c3 n) ?_)
  refine rdQ_mk 4 _ (pool_pass1_m sb c0 c1 c2 c3 n (fun x1 rh1_2 h1=> ?_))
  have rah1:=rh1_2.a;have rbh1:=rh1_2.b;have rch1:=rh1_2.c;have rdh1:=rh1_2.d
  have hy:=h1
  exact ⟨(x1.1,(x1.2.1,x1.2.2.1,x1.2.2.2.1,x1.2.2.2.2)),⟨⟨by first | assumption | exact R4_num _,by first | assumption | exact R4_num _,by first | assumption | exact R4_num _,by first | assumption | exact R4_num _⟩,by simp only [num_vI r_c0,num_vI r_c1,num_vI r_c2,num_vI r_c3,num_vI r_n];exact hy⟩,rfl,rfl,(by simp only [num_vI r_n]),trivial⟩
abbrev pool_Repay_1_K (sb cb:Nat) (c0 c1 c2 c3 n:Int) (KK:(Int×ST)->Prop):Prop:=pool_Repay_1_A sb cb c0 c1 c2 c3 n (fun za zh zv zu zp=>callQ Try.prog 150 za zh (Int×ST) zv zu zp KK)
theorem pool_Repay_1_m (sb cb:Nat) (c0 c1 c2 c3 n:Int) {KK:(Int×ST)->Prop} (kont: ∀zx:Int×ST,okS zx.2->(zx=cRepay ((c0,c1,c2,c3):ST) n)->KK zx) (r_c0:R4 c0:=by assumption) (r_c1:R4 c1:=by assumption) (r_c2:R4 c2:=by assumption) (r_c3:R4 c3:=by assumption) (r_n:R4 n:=by assumption):pool_Repay_1_K sb cb c0 c1 c2 c3 n KK:=callQ_mk (pool_Repay_1 sb cb c0 c1 c2 c3 n r_c0 r_c1 r_c2 r_c3 r_n) (⟨_,cRepay_R ⟨R4_num _,R4_num _,R4_num _,R4_num _⟩ (R4_num _),rfl⟩) fun zx hz=>by
  obtain ⟨rhz_2,hz⟩:=hz
  try simp only [num_vI (n:=c0) r_c0,num_vI (n:=c1) r_c1,num_vI (n:=c2) r_c2,num_vI (n:=c3) r_c3,num_vI (n:=n) r_n] at hz
  exact kont zx rhz_2 hz
noncomputable def pool_change_Gain_C:List Value->List Slot->Ctr:=fun vs hs=>⟨Int×BS,fun zx=> .int .i64 zx.1,fun zx=> [.blk (vblk (varg vs 1)) (.cells #[.pointer (some ⟨(vblk (scell (sarg hs 0) 0)),0,none⟩), .pointer (some ⟨(vblk (scell (sarg hs 0) 1)),0,none⟩), .slice none 0 0] 151 (0,0)),(mS Try.mk249 (vblk (scell (sarg hs 0) 0)) (snum (sarg hs 1) 1) zx.2.1),(jS Try.jk (snum (sarg hs 1) 1) zx.2.2.2), .blk (sblk (sarg hs 3)) (.cells #[uu (lim (num (.agg (scells (sarg hs 3)))) 0),uu (lim (num (.agg (scells (sarg hs 3)))) 1),uu (lim (num (.agg (scells (sarg hs 3)))) 2),uu (lim (num (.agg (scells (sarg hs 3)))) 3)] 25 (0,0))],fun zx=>zx=pChg (Try.ent249 (vblk (scell (sarg hs 0) 0))) cGain (((skv (sarg hs 1)),[],(sents (sarg hs 2))):BS) (ci (varg vs 2)) (num (.agg (scells (sarg hs 3))))⟩
abbrev pool_change_Gain_Q (b bm bh bj:Nat) (m:KV) (L:List Ent) (t:Int) (cb:Nat) (n:Int) (zv:Value) (zs0:Slot) (zs1:Slot) (zs2:Slot) (zs3:Slot):Prop:= ∃zx:Int×BS,(zx=pChg (Try.ent249 bm) cGain ((m,[],L):BS) t (num (vI n)))/\zv= .int .i64 zx.1/\zs0=bk b #[pp bm 0,pp bh 0, .slice none 0 0] 151/\zs1=(mS Try.mk249 bm bj zx.2.1)/\zs2=(jS Try.jk bj zx.2.2.2)/\zs3=bk cb (nC (num (vI n))) 25/\True
abbrev pool_change_Gain_A (b bm bh bj:Nat) (m:KV) (L:List Ent) (t:Int) (cb:Nat) (n:Int) (zF:SF (Int×BS)):Prop:=zF #[pp b 0, .int .u8 t, .func (.func 145) #[] #[pp cb 0]] [bk b #[pp bm 0,pp bh 0, .slice none 0 0] 151,(mS Try.mk249 bm bj m),(jS Try.jk bj L),bk cb (nC n) 25] (fun zx=> .int .i64 zx.1) (fun zx=> [bk b #[pp bm 0,pp bh 0, .slice none 0 0] 151,(mS Try.mk249 bm bj zx.2.1),(jS Try.jk bj zx.2.2.2),bk cb (nC (num (vI n))) 25]) (fun zx=>(zx=pChg (Try.ent249 bm) cGain ((m,[],L):BS) t (num (vI n))))
set_option maxRecDepth 100000 in
theorem pool_change_Gain_vc (b bm bh bj:Nat) (m:KV) (L:List Ent) (t:Int) (cb:Nat) (n:Int):pool_change_Gain_A b bm bh bj m L t cb n (fun za zh zv zu zp=>codeW Try.prog 26 none 2000 none (bodyOf Try.f135) (.reg [S0] (.reg [S0,S0] (.cond (.reg [S0] (.done)) (.reg [S0,S0, .callr [0,1] pool_Of_C, .sem [.nw 4], .sem (wrs 16 4)] (.reg [S0, .callw [4,3] [4,3] pool_Gain_1_C,S0] (.reg [S0,S0] (.cond (.reg [S0,S0] (.done)) (.reg [S0,S0,S0, .sem [.rd 0],S0, .sem (rds 16 4), .callw [1,2] [1,2] stage_Set249_C] (.reg [S0] (.done))))))))))
    (init za zh) (finW Try.prog Try.f135 [] [0,1,2,3] (X:=Int×BS) zv zu zp))=
    (((decide (t≥(4:Int)))=true->pool_change_Gain_Q b bm bh bj m L t cb n (Value.int .i64 1) (bk b #[pp bm 0,pp bh 0, .slice none 0 0] 151) (mS Try.mk249 bm bj m) (jS Try.jk bj L) (bk cb (nC n) 25))/\((decide (t≥(4:Int)))=false->pool_Of_K b bm bh bj m t (fun x1=> ∀b2:Nat,rdQ 16 b2 (pool_Gain_1_K b2 cb x1.1 x1.2.1 x1.2.2.1 x1.2.2.2 n (fun x3=>((x3.1 !=(0:Int))=true->pool_change_Gain_Q b bm bh bj m L t cb n (Value.int .i64 x3.1) (bk b #[pp bm 0,pp bh 0, .slice none 0 0] 151) (mS Try.mk249 bm bj m) (jS Try.jk bj L) (bk cb (nC (num (vI n))) 25))/\((x3.1 !=(0:Int))=false->rdQ 1 b (rdQ 16 b2 (callQ Try.prog 81 #[pp bm 0, .int .u8 t,stV (x3.2.1,x3.2.2.1,x3.2.2.2.1,x3.2.2.2.2)] [(mS Try.mk249 bm bj m),(jS Try.jk bj L)] (KV×List Ent) (fun zx=> .tuple #[]) (fun zx=> [(mS Try.mk249 bm bj zx.1),(jS Try.jk bj zx.2)]) (fun zx=>zx.1=mset m (Value.int .u8 t) (stV (x3.2.1,x3.2.2.1,x3.2.2.2.1,x3.2.2.2.2))/\zx.2=L++ [(Try.ent249 bm m (Value.int .u8 t))]) (fun x4=>pool_change_Gain_Q b bm bh bj m L t cb n (Value.int .i64 0) (bk b #[pp bm 0,pp bh 0, .slice none 0 0] 151) (mS Try.mk249 bm bj x4.1) (jS Try.jk bj x4.2) (bk cb (nC (num (vI n))) 25)))))))))):=by kernel_rfl
set_option maxRecDepth 100000 in
theorem pool_change_Gain (b bm bh bj:Nat) (m:KV) (L:List Ent) (t:Int) (cb:Nat) (n:Int) (r_n:R4 n) (hk:KOK Try.mk249 m) (hl:L.length<=1000000):pool_change_Gain_A b bm bh bj m L t cb n (fun za zh zv zu zp=>CallT Try.prog 135 za zh (Int×BS) zv zu zp):=by
  refine call_of (c:=bodyOf Try.f135) (n:=26) (fn:=Try.f135) Try.mixed Try.func135 (by kernel_rfl) (by kernel_rfl) (by kernel_rfl) 2000 _ [] [0,1,2,3] rfl rfl (Eq.mpr (pool_change_Gain_vc b bm bh bj m L t cb n) ?_)
  refine ⟨fun h1=> ?_,fun h1=> ?_⟩
  · exact ⟨(1,m,[],L),(by rw [num_vI r_n];exact (pChg_arg (by (try simp (disch:=first | assumption | exact R4_zero | exact R4_one) only [rdx] at *);omega)).symm),rfl,rfl,rfl,rfl,(by simp only [num_vI r_n]),trivial⟩
  refine pool_Of_m b bm bh bj m t (fun x1 rh2_ h2=> ?_)
  have rah2:=rh2_.a;have rbh2:=rh2_.b;have rch2:=rh2_.c;have rdh2:=rh2_.d
  have hq:=h2
  intro b2
  refine rdQ_mk 16 _ (pool_Gain_1_m b2 cb x1.1 x1.2.1 x1.2.2.1 x1.2.2.2 n (fun x3 rh3_2 h3=> ?_))
  have rah3:=rh3_2.a;have rbh3:=rh3_2.b;have rch3:=rh3_2.c;have rdh3:=rh3_2.d
  have hx:=h3
  refine ⟨fun h4=> ?_,fun h4=> ?_⟩
  · have hz:=(bne_iff_ne.1 h4)
    have hc: ¬4<=t:=by (try simp (disch:=first | assumption | exact R4_zero | exact R4_one) only [rdx] at *);omega
    exact ⟨(x3.1,m,[],L),(by rw [num_vI r_n];exact (pChg_no (s:=(m,[],L)) hc hq hx hz).symm),rfl,rfl,rfl,rfl,(by simp only [num_vI r_n]),trivial⟩
  refine rdQ_mk 1 _ (rdQ_mk 16 _ (callQ_mk (stage_Set249 bm bj m L t x3.2.1 x3.2.2.1 x3.2.2.2.1 x3.2.2.2.2 (by assumption) (by assumption) (by assumption) (by assumption) (by omega)) (⟨(_,_),rfl,rfl⟩) fun x4 h5=> ?_))
  try simp only [num_vI (n:=x3.2.1) (by assumption),num_vI (n:=x3.2.2.1) (by assumption),num_vI (n:=x3.2.2.2.1) (by assumption),num_vI (n:=x3.2.2.2.2) (by assumption)] at h5
  have hs:=h5
  have hz:=(bne_eq_false_iff_eq.1 h4)
  have hc: ¬4<=t:=by (try simp (disch:=first | assumption | exact R4_zero | exact R4_one) only [rdx] at *);omega
  exact ⟨(0,x4.1,[],x4.2),(by rw [num_vI r_n];exact (pChg_ok (s:=(m,[],L)) hc hq hx hz hs.1 hs.2).symm),rfl,rfl,rfl,rfl,(by simp only [num_vI r_n]),trivial⟩
abbrev pool_change_Gain_K (b bm bh bj:Nat) (m:KV) (L:List Ent) (t:Int) (cb:Nat) (n:Int) (KK:(Int×BS)->Prop):Prop:=pool_change_Gain_A b bm bh bj m L t cb n (fun za zh zv zu zp=>callQ Try.prog 135 za zh (Int×BS) zv zu zp KK)
theorem pool_change_Gain_m (b bm bh bj:Nat) (m:KV) (L:List Ent) (t:Int) (cb:Nat) (n:Int) {KK:(Int×BS)->Prop} (kont: ∀zx:Int×BS,(zx=pChg (Try.ent249 bm) cGain ((m,[],L):BS) t n)->KK zx) (r_n:R4 n:=by assumption) (hk:KOK Try.mk249 m:=by assumption) (hl:L.length<=1000000:=by omega):pool_change_Gain_K b bm bh bj m L t cb n KK:=callQ_mk (pool_change_Gain b bm bh bj m L t cb n r_n hk hl) (⟨_,rfl⟩) fun zx hz=>by
  try simp only [num_vI (n:=n) r_n] at hz
  exact kont zx hz
noncomputable def pool_change_Reserve_C:List Value->List Slot->Ctr:=fun vs hs=>⟨Int×BS,fun zx=> .int .i64 zx.1,fun zx=> [.blk (vblk (varg vs 1)) (.cells #[.pointer (some ⟨(vblk (scell (sarg hs 0) 0)),0,none⟩), .pointer (some ⟨(vblk (scell (sarg hs 0) 1)),0,none⟩), .slice none 0 0] 151 (0,0)),(mS Try.mk249 (vblk (scell (sarg hs 0) 0)) (snum (sarg hs 1) 1) zx.2.1),(jS Try.jk (snum (sarg hs 1) 1) zx.2.2.2), .blk (sblk (sarg hs 3)) (.cells #[uu (lim (num (.agg (scells (sarg hs 3)))) 0),uu (lim (num (.agg (scells (sarg hs 3)))) 1),uu (lim (num (.agg (scells (sarg hs 3)))) 2),uu (lim (num (.agg (scells (sarg hs 3)))) 3)] 25 (0,0))],fun zx=>zx=pChg (Try.ent249 (vblk (scell (sarg hs 0) 0))) cRes (((skv (sarg hs 1)),[],(sents (sarg hs 2))):BS) (ci (varg vs 2)) (num (.agg (scells (sarg hs 3))))⟩
abbrev pool_change_Reserve_Q (b bm bh bj:Nat) (m:KV) (L:List Ent) (t:Int) (cb:Nat) (n:Int) (zv:Value) (zs0:Slot) (zs1:Slot) (zs2:Slot) (zs3:Slot):Prop:= ∃zx:Int×BS,(zx=pChg (Try.ent249 bm) cRes ((m,[],L):BS) t (num (vI n)))/\zv= .int .i64 zx.1/\zs0=bk b #[pp bm 0,pp bh 0, .slice none 0 0] 151/\zs1=(mS Try.mk249 bm bj zx.2.1)/\zs2=(jS Try.jk bj zx.2.2.2)/\zs3=bk cb (nC (num (vI n))) 25/\True
abbrev pool_change_Reserve_A (b bm bh bj:Nat) (m:KV) (L:List Ent) (t:Int) (cb:Nat) (n:Int) (zF:SF (Int×BS)):Prop:=zF #[pp b 0, .int .u8 t, .func (.func 147) #[] #[pp cb 0]] [bk b #[pp bm 0,pp bh 0, .slice none 0 0] 151,(mS Try.mk249 bm bj m),(jS Try.jk bj L),bk cb (nC n) 25] (fun zx=> .int .i64 zx.1) (fun zx=> [bk b #[pp bm 0,pp bh 0, .slice none 0 0] 151,(mS Try.mk249 bm bj zx.2.1),(jS Try.jk bj zx.2.2.2),bk cb (nC (num (vI n))) 25]) (fun zx=>(zx=pChg (Try.ent249 bm) cRes ((m,[],L):BS) t (num (vI n))))
set_option maxRecDepth 100000 in
theorem pool_change_Reserve_vc (b bm bh bj:Nat) (m:KV) (L:List Ent) (t:Int) (cb:Nat) (n:Int):pool_change_Reserve_A b bm bh bj m L t cb n (fun za zh zv zu zp=>codeW Try.prog 26 none 2000 none (bodyOf Try.f135) (.reg [S0] (.reg [S0,S0] (.cond (.reg [S0] (.done)) (.reg [S0,S0, .callr [0,1] pool_Of_C, .sem [.nw 4], .sem (wrs 16 4)] (.reg [S0, .callw [4,3] [4,3] pool_Reserve_1_C,S0] (.reg [S0,S0] (.cond (.reg [S0,S0] (.done)) (.reg [S0,S0,S0, .sem [.rd 0],S0, .sem (rds 16 4), .callw [1,2] [1,2] stage_Set249_C] (.reg [S0] (.done))))))))))
    (init za zh) (finW Try.prog Try.f135 [] [0,1,2,3] (X:=Int×BS) zv zu zp))=
    (((decide (t≥(4:Int)))=true->pool_change_Reserve_Q b bm bh bj m L t cb n (Value.int .i64 1) (bk b #[pp bm 0,pp bh 0, .slice none 0 0] 151) (mS Try.mk249 bm bj m) (jS Try.jk bj L) (bk cb (nC n) 25))/\((decide (t≥(4:Int)))=false->pool_Of_K b bm bh bj m t (fun x1=> ∀b2:Nat,rdQ 16 b2 (pool_Reserve_1_K b2 cb x1.1 x1.2.1 x1.2.2.1 x1.2.2.2 n (fun x3=>((x3.1 !=(0:Int))=true->pool_change_Reserve_Q b bm bh bj m L t cb n (Value.int .i64 x3.1) (bk b #[pp bm 0,pp bh 0, .slice none 0 0] 151) (mS Try.mk249 bm bj m) (jS Try.jk bj L) (bk cb (nC (num (vI n))) 25))/\((x3.1 !=(0:Int))=false->rdQ 1 b (rdQ 16 b2 (callQ Try.prog 81 #[pp bm 0, .int .u8 t,stV (x3.2.1,x3.2.2.1,x3.2.2.2.1,x3.2.2.2.2)] [(mS Try.mk249 bm bj m),(jS Try.jk bj L)] (KV×List Ent) (fun zx=> .tuple #[]) (fun zx=> [(mS Try.mk249 bm bj zx.1),(jS Try.jk bj zx.2)]) (fun zx=>zx.1=mset m (Value.int .u8 t) (stV (x3.2.1,x3.2.2.1,x3.2.2.2.1,x3.2.2.2.2))/\zx.2=L++ [(Try.ent249 bm m (Value.int .u8 t))]) (fun x4=>pool_change_Reserve_Q b bm bh bj m L t cb n (Value.int .i64 0) (bk b #[pp bm 0,pp bh 0, .slice none 0 0] 151) (mS Try.mk249 bm bj x4.1) (jS Try.jk bj x4.2) (bk cb (nC (num (vI n))) 25)))))))))):=by kernel_rfl
set_option maxRecDepth 100000 in
theorem pool_change_Reserve (b bm bh bj:Nat) (m:KV) (L:List Ent) (t:Int) (cb:Nat) (n:Int) (r_n:R4 n) (hk:KOK Try.mk249 m) (hl:L.length<=1000000):pool_change_Reserve_A b bm bh bj m L t cb n (fun za zh zv zu zp=>CallT Try.prog 135 za zh (Int×BS) zv zu zp):=by
  refine call_of (c:=bodyOf Try.f135) (n:=26) (fn:=Try.f135) Try.mixed Try.func135 (by kernel_rfl) (by kernel_rfl) (by kernel_rfl) 2000 _ [] [0,1,2,3] rfl rfl (Eq.mpr (pool_change_Reserve_vc b bm bh bj m L t cb n) ?_)
  refine ⟨fun h1=> ?_,fun h1=> ?_⟩
  · exact ⟨(1,m,[],L),(by rw [num_vI r_n];exact (pChg_arg (by (try simp (disch:=first | assumption | exact R4_zero | exact R4_one) only [rdx] at *);omega)).symm),rfl,rfl,rfl,rfl,(by simp only [num_vI r_n]),trivial⟩
  refine pool_Of_m b bm bh bj m t (fun x1 rh2_ h2=> ?_)
  have rah2:=rh2_.a;have rbh2:=rh2_.b;have rch2:=rh2_.c;have rdh2:=rh2_.d
  have hq:=h2
  intro b2
  refine rdQ_mk 16 _ (pool_Reserve_1_m b2 cb x1.1 x1.2.1 x1.2.2.1 x1.2.2.2 n (fun x3 rh3_2 h3=> ?_))
  have rah3:=rh3_2.a;have rbh3:=rh3_2.b;have rch3:=rh3_2.c;have rdh3:=rh3_2.d
  have hx:=h3
  refine ⟨fun h4=> ?_,fun h4=> ?_⟩
  · have hz:=(bne_iff_ne.1 h4)
    have hc: ¬4<=t:=by (try simp (disch:=first | assumption | exact R4_zero | exact R4_one) only [rdx] at *);omega
    exact ⟨(x3.1,m,[],L),(by rw [num_vI r_n];exact (pChg_no (s:=(m,[],L)) hc hq hx hz).symm),rfl,rfl,rfl,rfl,(by simp only [num_vI r_n]),trivial⟩
  refine rdQ_mk 1 _ (rdQ_mk 16 _ (callQ_mk (stage_Set249 bm bj m L t x3.2.1 x3.2.2.1 x3.2.2.2.1 x3.2.2.2.2 (by assumption) (by assumption) (by assumption) (by assumption) (by omega)) (⟨(_,_),rfl,rfl⟩) fun x4 h5=> ?_))
  try simp only [num_vI (n:=x3.2.1) (by assumption),num_vI (n:=x3.2.2.1) (by assumption),num_vI (n:=x3.2.2.2.1) (by assumption),num_vI (n:=x3.2.2.2.2) (by assumption)] at h5
  have hs:=h5
  have hz:=(bne_eq_false_iff_eq.1 h4)
  have hc: ¬4<=t:=by (try simp (disch:=first | assumption | exact R4_zero | exact R4_one) only [rdx] at *);omega
  exact ⟨(0,x4.1,[],x4.2),(by rw [num_vI r_n];exact (pChg_ok (s:=(m,[],L)) hc hq hx hz hs.1 hs.2).symm),rfl,rfl,rfl,rfl,(by simp only [num_vI r_n]),trivial⟩
abbrev pool_change_Reserve_K (b bm bh bj:Nat) (m:KV) (L:List Ent) (t:Int) (cb:Nat) (n:Int) (KK:(Int×BS)->Prop):Prop:=pool_change_Reserve_A b bm bh bj m L t cb n (fun za zh zv zu zp=>callQ Try.prog 135 za zh (Int×BS) zv zu zp KK)
theorem pool_change_Reserve_m (b bm bh bj:Nat) (m:KV) (L:List Ent) (t:Int) (cb:Nat) (n:Int) {KK:(Int×BS)->Prop} (kont: ∀zx:Int×BS,(zx=pChg (Try.ent249 bm) cRes ((m,[],L):BS) t n)->KK zx) (r_n:R4 n:=by assumption) (hk:KOK Try.mk249 m:=by assumption) (hl:L.length<=1000000:=by omega):pool_change_Reserve_K b bm bh bj m L t cb n KK:=callQ_mk (pool_change_Reserve b bm bh bj m L t cb n r_n hk hl) (⟨_,rfl⟩) fun zx hz=>by
  try simp only [num_vI (n:=n) r_n] at hz
  exact kont zx hz
noncomputable def pool_change_Release_C:List Value->List Slot->Ctr:=fun vs hs=>⟨Int×BS,fun zx=> .int .i64 zx.1,fun zx=> [.blk (vblk (varg vs 1)) (.cells #[.pointer (some ⟨(vblk (scell (sarg hs 0) 0)),0,none⟩), .pointer (some ⟨(vblk (scell (sarg hs 0) 1)),0,none⟩), .slice none 0 0] 151 (0,0)),(mS Try.mk249 (vblk (scell (sarg hs 0) 0)) (snum (sarg hs 1) 1) zx.2.1),(jS Try.jk (snum (sarg hs 1) 1) zx.2.2.2), .blk (sblk (sarg hs 3)) (.cells #[uu (lim (num (.agg (scells (sarg hs 3)))) 0),uu (lim (num (.agg (scells (sarg hs 3)))) 1),uu (lim (num (.agg (scells (sarg hs 3)))) 2),uu (lim (num (.agg (scells (sarg hs 3)))) 3)] 25 (0,0))],fun zx=>zx=pChg (Try.ent249 (vblk (scell (sarg hs 0) 0))) cRel (((skv (sarg hs 1)),[],(sents (sarg hs 2))):BS) (ci (varg vs 2)) (num (.agg (scells (sarg hs 3))))⟩
abbrev pool_change_Release_Q (b bm bh bj:Nat) (m:KV) (L:List Ent) (t:Int) (cb:Nat) (n:Int) (zv:Value) (zs0:Slot) (zs1:Slot) (zs2:Slot) (zs3:Slot):Prop:= ∃zx:Int×BS,(zx=pChg (Try.ent249 bm) cRel ((m,[],L):BS) t (num (vI n)))/\zv= .int .i64 zx.1/\zs0=bk b #[pp bm 0,pp bh 0, .slice none 0 0] 151/\zs1=(mS Try.mk249 bm bj zx.2.1)/\zs2=(jS Try.jk bj zx.2.2.2)/\zs3=bk cb (nC (num (vI n))) 25/\True
abbrev pool_change_Release_A (b bm bh bj:Nat) (m:KV) (L:List Ent) (t:Int) (cb:Nat) (n:Int) (zF:SF (Int×BS)):Prop:=zF #[pp b 0, .int .u8 t, .func (.func 148) #[] #[pp cb 0]] [bk b #[pp bm 0,pp bh 0, .slice none 0 0] 151,(mS Try.mk249 bm bj m),(jS Try.jk bj L),bk cb (nC n) 25] (fun zx=> .int .i64 zx.1) (fun zx=> [bk b #[pp bm 0,pp bh 0, .slice none 0 0] 151,(mS Try.mk249 bm bj zx.2.1),(jS Try.jk bj zx.2.2.2),bk cb (nC (num (vI n))) 25]) (fun zx=>(zx=pChg (Try.ent249 bm) cRel ((m,[],L):BS) t (num (vI n))))
set_option maxRecDepth 100000 in
theorem pool_change_Release_vc (b bm bh bj:Nat) (m:KV) (L:List Ent) (t:Int) (cb:Nat) (n:Int):pool_change_Release_A b bm bh bj m L t cb n (fun za zh zv zu zp=>codeW Try.prog 26 none 2000 none (bodyOf Try.f135) (.reg [S0] (.reg [S0,S0] (.cond (.reg [S0] (.done)) (.reg [S0,S0, .callr [0,1] pool_Of_C, .sem [.nw 4], .sem (wrs 16 4)] (.reg [S0, .callw [4,3] [4,3] pool_Release_1_C,S0] (.reg [S0,S0] (.cond (.reg [S0,S0] (.done)) (.reg [S0,S0,S0, .sem [.rd 0],S0, .sem (rds 16 4), .callw [1,2] [1,2] stage_Set249_C] (.reg [S0] (.done))))))))))
    (init za zh) (finW Try.prog Try.f135 [] [0,1,2,3] (X:=Int×BS) zv zu zp))=
    (((decide (t≥(4:Int)))=true->pool_change_Release_Q b bm bh bj m L t cb n (Value.int .i64 1) (bk b #[pp bm 0,pp bh 0, .slice none 0 0] 151) (mS Try.mk249 bm bj m) (jS Try.jk bj L) (bk cb (nC n) 25))/\((decide (t≥(4:Int)))=false->pool_Of_K b bm bh bj m t (fun x1=> ∀b2:Nat,rdQ 16 b2 (pool_Release_1_K b2 cb x1.1 x1.2.1 x1.2.2.1 x1.2.2.2 n (fun x3=>((x3.1 !=(0:Int))=true->pool_change_Release_Q b bm bh bj m L t cb n (Value.int .i64 x3.1) (bk b #[pp bm 0,pp bh 0, .slice none 0 0] 151) (mS Try.mk249 bm bj m) (jS Try.jk bj L) (bk cb (nC (num (vI n))) 25))/\((x3.1 !=(0:Int))=false->rdQ 1 b (rdQ 16 b2 (callQ Try.prog 81 #[pp bm 0, .int .u8 t,stV (x3.2.1,x3.2.2.1,x3.2.2.2.1,x3.2.2.2.2)] [(mS Try.mk249 bm bj m),(jS Try.jk bj L)] (KV×List Ent) (fun zx=> .tuple #[]) (fun zx=> [(mS Try.mk249 bm bj zx.1),(jS Try.jk bj zx.2)]) (fun zx=>zx.1=mset m (Value.int .u8 t) (stV (x3.2.1,x3.2.2.1,x3.2.2.2.1,x3.2.2.2.2))/\zx.2=L++ [(Try.ent249 bm m (Value.int .u8 t))]) (fun x4=>pool_change_Release_Q b bm bh bj m L t cb n (Value.int .i64 0) (bk b #[pp bm 0,pp bh 0, .slice none 0 0] 151) (mS Try.mk249 bm bj x4.1) (jS Try.jk bj x4.2) (bk cb (nC (num (vI n))) 25)))))))))):=by kernel_rfl
set_option maxRecDepth 100000 in
theorem pool_change_Release (b bm bh bj:Nat) (m:KV) (L:List Ent) (t:Int) (cb:Nat) (n:Int) (r_n:R4 n) (hk:KOK Try.mk249 m) (hl:L.length<=1000000):pool_change_Release_A b bm bh bj m L t cb n (fun za zh zv zu zp=>CallT Try.prog 135 za zh (Int×BS) zv zu zp):=by
  refine call_of (c:=bodyOf Try.f135) (n:=26) (fn:=Try.f135) Try.mixed Try.func135 (by kernel_rfl) (by kernel_rfl) (by kernel_rfl) 2000 _ [] [0,1,2,3] rfl rfl (Eq.mpr (pool_change_Release_vc b bm bh bj m L t cb n) ?_)
  refine ⟨fun h1=> ?_,fun h1=> ?_⟩
  · exact ⟨(1,m,[],L),(by rw [num_vI r_n];exact (pChg_arg (by (try simp (disch:=first | assumption | exact R4_zero | exact R4_one) only [rdx] at *);omega)).symm),rfl,rfl,rfl,rfl,(by simp only [num_vI r_n]),trivial⟩
  refine pool_Of_m b bm bh bj m t (fun x1 rh2_ h2=> ?_)
  have rah2:=rh2_.a;have rbh2:=rh2_.b;have rch2:=rh2_.c;have rdh2:=rh2_.d
  have hq:=h2
  intro b2
  refine rdQ_mk 16 _ (pool_Release_1_m b2 cb x1.1 x1.2.1 x1.2.2.1 x1.2.2.2 n (fun x3 rh3_2 h3=> ?_))
  have rah3:=rh3_2.a;have rbh3:=rh3_2.b;have rch3:=rh3_2.c;have rdh3:=rh3_2.d
  have hx:=h3
  refine ⟨fun h4=> ?_,fun h4=> ?_⟩
  · have hz:=(bne_iff_ne.1 h4)
    have hc: ¬4<=t:=by (try simp (disch:=first | assumption | exact R4_zero | exact R4_one) only [rdx] at *);omega
    exact ⟨(x3.1,m,[],L),(by rw [num_vI r_n];exact (pChg_no (s:=(m,[],L)) hc hq hx hz).symm),rfl,rfl,rfl,rfl,(by simp only [num_vI r_n]),trivial⟩
  refine rdQ_mk 1 _ (rdQ_mk 16 _ (callQ_mk (stage_Set249 bm bj m L t x3.2.1 x3.2.2.1 x3.2.2.2.1 x3.2.2.2.2 (by assumption) (by assumption) (by assumption) (by assumption) (by omega)) (⟨(_,_),rfl,rfl⟩) fun x4 h5=> ?_))
  try simp only [num_vI (n:=x3.2.1) (by assumption),num_vI (n:=x3.2.2.1) (by assumption),num_vI (n:=x3.2.2.2.1) (by assumption),num_vI (n:=x3.2.2.2.2) (by assumption)] at h5
  have hs:=h5
  have hz:=(bne_eq_false_iff_eq.1 h4)
  have hc: ¬4<=t:=by (try simp (disch:=first | assumption | exact R4_zero | exact R4_one) only [rdx] at *);omega
  exact ⟨(0,x4.1,[],x4.2),(by rw [num_vI r_n];exact (pChg_ok (s:=(m,[],L)) hc hq hx hz hs.1 hs.2).symm),rfl,rfl,rfl,rfl,(by simp only [num_vI r_n]),trivial⟩
abbrev pool_change_Release_K (b bm bh bj:Nat) (m:KV) (L:List Ent) (t:Int) (cb:Nat) (n:Int) (KK:(Int×BS)->Prop):Prop:=pool_change_Release_A b bm bh bj m L t cb n (fun za zh zv zu zp=>callQ Try.prog 135 za zh (Int×BS) zv zu zp KK)
theorem pool_change_Release_m (b bm bh bj:Nat) (m:KV) (L:List Ent) (t:Int) (cb:Nat) (n:Int) {KK:(Int×BS)->Prop} (kont: ∀zx:Int×BS,(zx=pChg (Try.ent249 bm) cRel ((m,[],L):BS) t n)->KK zx) (r_n:R4 n:=by assumption) (hk:KOK Try.mk249 m:=by assumption) (hl:L.length<=1000000:=by omega):pool_change_Release_K b bm bh bj m L t cb n KK:=callQ_mk (pool_change_Release b bm bh bj m L t cb n r_n hk hl) (⟨_,rfl⟩) fun zx hz=>by
  try simp only [num_vI (n:=n) r_n] at hz
  exact kont zx hz
noncomputable def pool_change_Front_C:List Value->List Slot->Ctr:=fun vs hs=>⟨Int×BS,fun zx=> .int .i64 zx.1,fun zx=> [.blk (vblk (varg vs 1)) (.cells #[.pointer (some ⟨(vblk (scell (sarg hs 0) 0)),0,none⟩), .pointer (some ⟨(vblk (scell (sarg hs 0) 1)),0,none⟩), .slice none 0 0] 151 (0,0)),(mS Try.mk249 (vblk (scell (sarg hs 0) 0)) (snum (sarg hs 1) 1) zx.2.1),(jS Try.jk (snum (sarg hs 1) 1) zx.2.2.2), .blk (sblk (sarg hs 3)) (.cells #[uu (lim (num (.agg (scells (sarg hs 3)))) 0),uu (lim (num (.agg (scells (sarg hs 3)))) 1),uu (lim (num (.agg (scells (sarg hs 3)))) 2),uu (lim (num (.agg (scells (sarg hs 3)))) 3)] 25 (0,0))],fun zx=>zx=pChg (Try.ent249 (vblk (scell (sarg hs 0) 0))) cFront (((skv (sarg hs 1)),[],(sents (sarg hs 2))):BS) (ci (varg vs 2)) (num (.agg (scells (sarg hs 3))))⟩
abbrev pool_change_Front_Q (b bm bh bj:Nat) (m:KV) (L:List Ent) (t:Int) (cb:Nat) (n:Int) (zv:Value) (zs0:Slot) (zs1:Slot) (zs2:Slot) (zs3:Slot):Prop:= ∃zx:Int×BS,(zx=pChg (Try.ent249 bm) cFront ((m,[],L):BS) t (num (vI n)))/\zv= .int .i64 zx.1/\zs0=bk b #[pp bm 0,pp bh 0, .slice none 0 0] 151/\zs1=(mS Try.mk249 bm bj zx.2.1)/\zs2=(jS Try.jk bj zx.2.2.2)/\zs3=bk cb (nC (num (vI n))) 25/\True
abbrev pool_change_Front_A (b bm bh bj:Nat) (m:KV) (L:List Ent) (t:Int) (cb:Nat) (n:Int) (zF:SF (Int×BS)):Prop:=zF #[pp b 0, .int .u8 t, .func (.func 136) #[] #[pp cb 0]] [bk b #[pp bm 0,pp bh 0, .slice none 0 0] 151,(mS Try.mk249 bm bj m),(jS Try.jk bj L),bk cb (nC n) 25] (fun zx=> .int .i64 zx.1) (fun zx=> [bk b #[pp bm 0,pp bh 0, .slice none 0 0] 151,(mS Try.mk249 bm bj zx.2.1),(jS Try.jk bj zx.2.2.2),bk cb (nC (num (vI n))) 25]) (fun zx=>(zx=pChg (Try.ent249 bm) cFront ((m,[],L):BS) t (num (vI n))))
set_option maxRecDepth 100000 in
theorem pool_change_Front_vc (b bm bh bj:Nat) (m:KV) (L:List Ent) (t:Int) (cb:Nat) (n:Int):pool_change_Front_A b bm bh bj m L t cb n (fun za zh zv zu zp=>codeW Try.prog 26 none 2000 none (bodyOf Try.f135) (.reg [S0] (.reg [S0,S0] (.cond (.reg [S0] (.done)) (.reg [S0,S0, .callr [0,1] pool_Of_C, .sem [.nw 4], .sem (wrs 16 4)] (.reg [S0, .callw [4,3] [4,3] pool_Front_1_C,S0] (.reg [S0,S0] (.cond (.reg [S0,S0] (.done)) (.reg [S0,S0,S0, .sem [.rd 0],S0, .sem (rds 16 4), .callw [1,2] [1,2] stage_Set249_C] (.reg [S0] (.done))))))))))
    (init za zh) (finW Try.prog Try.f135 [] [0,1,2,3] (X:=Int×BS) zv zu zp))=
    (((decide (t≥(4:Int)))=true->pool_change_Front_Q b bm bh bj m L t cb n (Value.int .i64 1) (bk b #[pp bm 0,pp bh 0, .slice none 0 0] 151) (mS Try.mk249 bm bj m) (jS Try.jk bj L) (bk cb (nC n) 25))/\((decide (t≥(4:Int)))=false->pool_Of_K b bm bh bj m t (fun x1=> ∀b2:Nat,rdQ 16 b2 (pool_Front_1_K b2 cb x1.1 x1.2.1 x1.2.2.1 x1.2.2.2 n (fun x3=>((x3.1 !=(0:Int))=true->pool_change_Front_Q b bm bh bj m L t cb n (Value.int .i64 x3.1) (bk b #[pp bm 0,pp bh 0, .slice none 0 0] 151) (mS Try.mk249 bm bj m) (jS Try.jk bj L) (bk cb (nC (num (vI n))) 25))/\((x3.1 !=(0:Int))=false->rdQ 1 b (rdQ 16 b2 (callQ Try.prog 81 #[pp bm 0, .int .u8 t,stV (x3.2.1,x3.2.2.1,x3.2.2.2.1,x3.2.2.2.2)] [(mS Try.mk249 bm bj m),(jS Try.jk bj L)] (KV×List Ent) (fun zx=> .tuple #[]) (fun zx=> [(mS Try.mk249 bm bj zx.1),(jS Try.jk bj zx.2)]) (fun zx=>zx.1=mset m (Value.int .u8 t) (stV (x3.2.1,x3.2.2.1,x3.2.2.2.1,x3.2.2.2.2))/\zx.2=L++ [(Try.ent249 bm m (Value.int .u8 t))]) (fun x4=>pool_change_Front_Q b bm bh bj m L t cb n (Value.int .i64 0) (bk b #[pp bm 0,pp bh 0, .slice none 0 0] 151) (mS Try.mk249 bm bj x4.1) (jS Try.jk bj x4.2) (bk cb (nC (num (vI n))) 25)))))))))):=by kernel_rfl
set_option maxRecDepth 100000 in
theorem pool_change_Front (b bm bh bj:Nat) (m:KV) (L:List Ent) (t:Int) (cb:Nat) (n:Int) (r_n:R4 n) (hk:KOK Try.mk249 m) (hl:L.length<=1000000):pool_change_Front_A b bm bh bj m L t cb n (fun za zh zv zu zp=>CallT Try.prog 135 za zh (Int×BS) zv zu zp):=by
  refine call_of (c:=bodyOf Try.f135) (n:=26) (fn:=Try.f135) Try.mixed Try.func135 (by kernel_rfl) (by kernel_rfl) (by kernel_rfl) 2000 _ [] [0,1,2,3] rfl rfl (Eq.mpr (pool_change_Front_vc b bm bh bj m L t cb n) ?_)
  refine ⟨fun h1=> ?_,fun h1=> ?_⟩
  · exact ⟨(1,m,[],L),(by rw [num_vI r_n];exact (pChg_arg (by (try simp (disch:=first | assumption | exact R4_zero | exact R4_one) only [rdx] at *);omega)).symm),rfl,rfl,rfl,rfl,(by simp only [num_vI r_n]),trivial⟩
  refine pool_Of_m b bm bh bj m t (fun x1 rh2_ h2=> ?_)
  have rah2:=rh2_.a;have rbh2:=rh2_.b;have rch2:=rh2_.c;have rdh2:=rh2_.d
  have hq:=h2
  intro b2
  refine rdQ_mk 16 _ (pool_Front_1_m b2 cb x1.1 x1.2.1 x1.2.2.1 x1.2.2.2 n (fun x3 rh3_2 h3=> ?_))
  have rah3:=rh3_2.a;have rbh3:=rh3_2.b;have rch3:=rh3_2.c;have rdh3:=rh3_2.d
  have hx:=h3
  refine ⟨fun h4=> ?_,fun h4=> ?_⟩
  · have hz:=(bne_iff_ne.1 h4)
    have hc: ¬4<=t:=by (try simp (disch:=first | assumption | exact R4_zero | exact R4_one) only [rdx] at *);omega
    exact ⟨(x3.1,m,[],L),(by rw [num_vI r_n];exact (pChg_no (s:=(m,[],L)) hc hq hx hz).symm),rfl,rfl,rfl,rfl,(by simp only [num_vI r_n]),trivial⟩
  refine rdQ_mk 1 _ (rdQ_mk 16 _ (callQ_mk (stage_Set249 bm bj m L t x3.2.1 x3.2.2.1 x3.2.2.2.1 x3.2.2.2.2 (by assumption) (by assumption) (by assumption) (by assumption) (by omega)) (⟨(_,_),rfl,rfl⟩) fun x4 h5=> ?_))
  try simp only [num_vI (n:=x3.2.1) (by assumption),num_vI (n:=x3.2.2.1) (by assumption),num_vI (n:=x3.2.2.2.1) (by assumption),num_vI (n:=x3.2.2.2.2) (by assumption)] at h5
  have hs:=h5
  have hz:=(bne_eq_false_iff_eq.1 h4)
  have hc: ¬4<=t:=by (try simp (disch:=first | assumption | exact R4_zero | exact R4_one) only [rdx] at *);omega
  exact ⟨(0,x4.1,[],x4.2),(by rw [num_vI r_n];exact (pChg_ok (s:=(m,[],L)) hc hq hx hz hs.1 hs.2).symm),rfl,rfl,rfl,rfl,(by simp only [num_vI r_n]),trivial⟩
abbrev pool_change_Front_K (b bm bh bj:Nat) (m:KV) (L:List Ent) (t:Int) (cb:Nat) (n:Int) (KK:(Int×BS)->Prop):Prop:=pool_change_Front_A b bm bh bj m L t cb n (fun za zh zv zu zp=>callQ Try.prog 135 za zh (Int×BS) zv zu zp KK)
theorem pool_change_Front_m (b bm bh bj:Nat) (m:KV) (L:List Ent) (t:Int) (cb:Nat) (n:Int) {KK:(Int×BS)->Prop} (kont: ∀zx:Int×BS,(zx=pChg (Try.ent249 bm) cFront ((m,[],L):BS) t n)->KK zx) (r_n:R4 n:=by assumption) (hk:KOK Try.mk249 m:=by assumption) (hl:L.length<=1000000:=by omega):pool_change_Front_K b bm bh bj m L t cb n KK:=callQ_mk (pool_change_Front b bm bh bj m L t cb n r_n hk hl) (⟨_,rfl⟩) fun zx hz=>by
  try simp only [num_vI (n:=n) r_n] at hz
  exact kont zx hz
noncomputable def pool_change_Repay_C:List Value->List Slot->Ctr:=fun vs hs=>⟨Int×BS,fun zx=> .int .i64 zx.1,fun zx=> [.blk (vblk (varg vs 1)) (.cells #[.pointer (some ⟨(vblk (scell (sarg hs 0) 0)),0,none⟩), .pointer (some ⟨(vblk (scell (sarg hs 0) 1)),0,none⟩), .slice none 0 0] 151 (0,0)),(mS Try.mk249 (vblk (scell (sarg hs 0) 0)) (snum (sarg hs 1) 1) zx.2.1),(jS Try.jk (snum (sarg hs 1) 1) zx.2.2.2), .blk (sblk (sarg hs 3)) (.cells #[uu (lim (num (.agg (scells (sarg hs 3)))) 0),uu (lim (num (.agg (scells (sarg hs 3)))) 1),uu (lim (num (.agg (scells (sarg hs 3)))) 2),uu (lim (num (.agg (scells (sarg hs 3)))) 3)] 25 (0,0))],fun zx=>zx=pChg (Try.ent249 (vblk (scell (sarg hs 0) 0))) cRepay (((skv (sarg hs 1)),[],(sents (sarg hs 2))):BS) (ci (varg vs 2)) (num (.agg (scells (sarg hs 3))))⟩
abbrev pool_change_Repay_Q (b bm bh bj:Nat) (m:KV) (L:List Ent) (t:Int) (cb:Nat) (n:Int) (zv:Value) (zs0:Slot) (zs1:Slot) (zs2:Slot) (zs3:Slot):Prop:= ∃zx:Int×BS,(zx=pChg (Try.ent249 bm) cRepay ((m,[],L):BS) t (num (vI n)))/\zv= .int .i64 zx.1/\zs0=bk b #[pp bm 0,pp bh 0, .slice none 0 0] 151/\zs1=(mS Try.mk249 bm bj zx.2.1)/\zs2=(jS Try.jk bj zx.2.2.2)/\zs3=bk cb (nC (num (vI n))) 25/\True
abbrev pool_change_Repay_A (b bm bh bj:Nat) (m:KV) (L:List Ent) (t:Int) (cb:Nat) (n:Int) (zF:SF (Int×BS)):Prop:=zF #[pp b 0, .int .u8 t, .func (.func 150) #[] #[pp cb 0]] [bk b #[pp bm 0,pp bh 0, .slice none 0 0] 151,(mS Try.mk249 bm bj m),(jS Try.jk bj L),bk cb (nC n) 25] (fun zx=> .int .i64 zx.1) (fun zx=> [bk b #[pp bm 0,pp bh 0, .slice none 0 0] 151,(mS Try.mk249 bm bj zx.2.1),(jS Try.jk bj zx.2.2.2),bk cb (nC (num (vI n))) 25]) (fun zx=>(zx=pChg (Try.ent249 bm) cRepay ((m,[],L):BS) t (num (vI n))))
set_option maxRecDepth 100000 in
theorem pool_change_Repay_vc (b bm bh bj:Nat) (m:KV) (L:List Ent) (t:Int) (cb:Nat) (n:Int):pool_change_Repay_A b bm bh bj m L t cb n (fun za zh zv zu zp=>codeW Try.prog 26 none 2000 none (bodyOf Try.f135) (.reg [S0] (.reg [S0,S0] (.cond (.reg [S0] (.done)) (.reg [S0,S0, .callr [0,1] pool_Of_C, .sem [.nw 4], .sem (wrs 16 4)] (.reg [S0, .callw [4,3] [4,3] pool_Repay_1_C,S0] (.reg [S0,S0] (.cond (.reg [S0,S0] (.done)) (.reg [S0,S0,S0, .sem [.rd 0],S0, .sem (rds 16 4), .callw [1,2] [1,2] stage_Set249_C] (.reg [S0] (.done))))))))))
    (init za zh) (finW Try.prog Try.f135 [] [0,1,2,3] (X:=Int×BS) zv zu zp))=
    (((decide (t≥(4:Int)))=true->pool_change_Repay_Q b bm bh bj m L t cb n (Value.int .i64 1) (bk b #[pp bm 0,pp bh 0, .slice none 0 0] 151) (mS Try.mk249 bm bj m) (jS Try.jk bj L) (bk cb (nC n) 25))/\((decide (t≥(4:Int)))=false->pool_Of_K b bm bh bj m t (fun x1=> ∀b2:Nat,rdQ 16 b2 (pool_Repay_1_K b2 cb x1.1 x1.2.1 x1.2.2.1 x1.2.2.2 n (fun x3=>((x3.1 !=(0:Int))=true->pool_change_Repay_Q b bm bh bj m L t cb n (Value.int .i64 x3.1) (bk b #[pp bm 0,pp bh 0, .slice none 0 0] 151) (mS Try.mk249 bm bj m) (jS Try.jk bj L) (bk cb (nC (num (vI n))) 25))/\((x3.1 !=(0:Int))=false->rdQ 1 b (rdQ 16 b2 (callQ Try.prog 81 #[pp bm 0, .int .u8 t,stV (x3.2.1,x3.2.2.1,x3.2.2.2.1,x3.2.2.2.2)] [(mS Try.mk249 bm bj m),(jS Try.jk bj L)] (KV×List Ent) (fun zx=> .tuple #[]) (fun zx=> [(mS Try.mk249 bm bj zx.1),(jS Try.jk bj zx.2)]) (fun zx=>zx.1=mset m (Value.int .u8 t) (stV (x3.2.1,x3.2.2.1,x3.2.2.2.1,x3.2.2.2.2))/\zx.2=L++ [(Try.ent249 bm m (Value.int .u8 t))]) (fun x4=>pool_change_Repay_Q b bm bh bj m L t cb n (Value.int .i64 0) (bk b #[pp bm 0,pp bh 0, .slice none 0 0] 151) (mS Try.mk249 bm bj x4.1) (jS Try.jk bj x4.2) (bk cb (nC (num (vI n))) 25)))))))))):=by kernel_rfl
set_option maxRecDepth 100000 in
theorem pool_change_Repay (b bm bh bj:Nat) (m:KV) (L:List Ent) (t:Int) (cb:Nat) (n:Int) (r_n:R4 n) (hk:KOK Try.mk249 m) (hl:L.length<=1000000):pool_change_Repay_A b bm bh bj m L t cb n (fun za zh zv zu zp=>CallT Try.prog 135 za zh (Int×BS) zv zu zp):=by
  refine call_of (c:=bodyOf Try.f135) (n:=26) (fn:=Try.f135) Try.mixed Try.func135 (by kernel_rfl) (by kernel_rfl) (by kernel_rfl) 2000 _ [] [0,1,2,3] rfl rfl (Eq.mpr (pool_change_Repay_vc b bm bh bj m L t cb n) ?_)
  refine ⟨fun h1=> ?_,fun h1=> ?_⟩
  · exact ⟨(1,m,[],L),(by rw [num_vI r_n];exact (pChg_arg (by (try simp (disch:=first | assumption | exact R4_zero | exact R4_one) only [rdx] at *);omega)).symm),rfl,rfl,rfl,rfl,(by simp only [num_vI r_n]),trivial⟩
  refine pool_Of_m b bm bh bj m t (fun x1 rh2_ h2=> ?_)
  have rah2:=rh2_.a;have rbh2:=rh2_.b;have rch2:=rh2_.c;have rdh2:=rh2_.d
  have hq:=h2
  intro b2
  refine rdQ_mk 16 _ (pool_Repay_1_m b2 cb x1.1 x1.2.1 x1.2.2.1 x1.2.2.2 n (fun x3 rh3_2 h3=> ?_))
  have rah3:=rh3_2.a;have rbh3:=rh3_2.b;have rch3:=rh3_2.c;have rdh3:=rh3_2.d
  have hx:=h3
  refine ⟨fun h4=> ?_,fun h4=> ?_⟩
  · have hz:=(bne_iff_ne.1 h4)
    have hc: ¬4<=t:=by (try simp (disch:=first | assumption | exact R4_zero | exact R4_one) only [rdx] at *);omega
    exact ⟨(x3.1,m,[],L),(by rw [num_vI r_n];exact (pChg_no (s:=(m,[],L)) hc hq hx hz).symm),rfl,rfl,rfl,rfl,(by simp only [num_vI r_n]),trivial⟩
  refine rdQ_mk 1 _ (rdQ_mk 16 _ (callQ_mk (stage_Set249 bm bj m L t x3.2.1 x3.2.2.1 x3.2.2.2.1 x3.2.2.2.2 (by assumption) (by assumption) (by assumption) (by assumption) (by omega)) (⟨(_,_),rfl,rfl⟩) fun x4 h5=> ?_))
  try simp only [num_vI (n:=x3.2.1) (by assumption),num_vI (n:=x3.2.2.1) (by assumption),num_vI (n:=x3.2.2.2.1) (by assumption),num_vI (n:=x3.2.2.2.2) (by assumption)] at h5
  have hs:=h5
  have hz:=(bne_eq_false_iff_eq.1 h4)
  have hc: ¬4<=t:=by (try simp (disch:=first | assumption | exact R4_zero | exact R4_one) only [rdx] at *);omega
  exact ⟨(0,x4.1,[],x4.2),(by rw [num_vI r_n];exact (pChg_ok (s:=(m,[],L)) hc hq hx hz hs.1 hs.2).symm),rfl,rfl,rfl,rfl,(by simp only [num_vI r_n]),trivial⟩
abbrev pool_change_Repay_K (b bm bh bj:Nat) (m:KV) (L:List Ent) (t:Int) (cb:Nat) (n:Int) (KK:(Int×BS)->Prop):Prop:=pool_change_Repay_A b bm bh bj m L t cb n (fun za zh zv zu zp=>callQ Try.prog 135 za zh (Int×BS) zv zu zp KK)
theorem pool_change_Repay_m (b bm bh bj:Nat) (m:KV) (L:List Ent) (t:Int) (cb:Nat) (n:Int) {KK:(Int×BS)->Prop} (kont: ∀zx:Int×BS,(zx=pChg (Try.ent249 bm) cRepay ((m,[],L):BS) t n)->KK zx) (r_n:R4 n:=by assumption) (hk:KOK Try.mk249 m:=by assumption) (hl:L.length<=1000000:=by omega):pool_change_Repay_K b bm bh bj m L t cb n KK:=callQ_mk (pool_change_Repay b bm bh bj m L t cb n r_n hk hl) (⟨_,rfl⟩) fun zx hz=>by
  try simp only [num_vI (n:=n) r_n] at hz
  exact kont zx hz
noncomputable def pool_Gain_C:List Value->List Slot->Ctr:=fun vs hs=>⟨Int×BS,fun zx=> .int .i64 zx.1,fun zx=> [.blk (vblk (varg vs 1)) (.cells #[.pointer (some ⟨(vblk (scell (sarg hs 0) 0)),0,none⟩), .pointer (some ⟨(vblk (scell (sarg hs 0) 1)),0,none⟩), .slice none 0 0] 151 (0,0)),(mS Try.mk249 (vblk (scell (sarg hs 0) 0)) (snum (sarg hs 1) 1) zx.2.1),(jS Try.jk (snum (sarg hs 1) 1) zx.2.2.2)],fun zx=>zx=pChg (Try.ent249 (vblk (scell (sarg hs 0) 0))) cGain (((skv (sarg hs 1)),[],(sents (sarg hs 2))):BS) (ci (varg vs 2)) (num (varg vs 3))⟩
abbrev pool_Gain_Q (b bm bh bj:Nat) (m:KV) (L:List Ent) (t n:Int) (zv:Value) (zs0:Slot) (zs1:Slot) (zs2:Slot):Prop:= ∃zx:Int×BS,(zx=pChg (Try.ent249 bm) cGain ((m,[],L):BS) t (num (vI n)))/\zv= .int .i64 zx.1/\zs0=bk b #[pp bm 0,pp bh 0, .slice none 0 0] 151/\zs1=(mS Try.mk249 bm bj zx.2.1)/\zs2=(jS Try.jk bj zx.2.2.2)/\True
abbrev pool_Gain_A (b bm bh bj:Nat) (m:KV) (L:List Ent) (t n:Int) (zF:SF (Int×BS)):Prop:=zF #[pp b 0, .int .u8 t,vI n] [bk b #[pp bm 0,pp bh 0, .slice none 0 0] 151,(mS Try.mk249 bm bj m),(jS Try.jk bj L)] (fun zx=> .int .i64 zx.1) (fun zx=> [bk b #[pp bm 0,pp bh 0, .slice none 0 0] 151,(mS Try.mk249 bm bj zx.2.1),(jS Try.jk bj zx.2.2.2)]) (fun zx=>(zx=pChg (Try.ent249 bm) cGain ((m,[],L):BS) t (num (vI n))))
set_option maxRecDepth 100000 in
theorem pool_Gain_vc (b bm bh bj:Nat) (m:KV) (L:List Ent) (t n:Int):pool_Gain_A b bm bh bj m L t n (fun za zh zv zu zp=>codeW Try.prog 11 none 2000 none (bodyOf Try.f74) (.reg [.sem [.nw 3],S0] (.reg [S0,S0,S0, .callw [0,1,2,3] [0,1,2,3] pool_change_Gain_C,S0] (.done)))
    (init za zh) (finW Try.prog Try.f74 [] [0,1,2] (X:=Int×BS) zv zu zp))=
    (∀b1:Nat,pool_change_Gain_K b bm bh bj m L t b1 n (fun x2=>pool_Gain_Q b bm bh bj m L t n (Value.int .i64 x2.1) (bk b #[pp bm 0,pp bh 0, .slice none 0 0] 151) (mS Try.mk249 bm bj x2.2.1) (jS Try.jk bj x2.2.2.2))):=by kernel_rfl
set_option maxRecDepth 100000 in
theorem pool_Gain (b bm bh bj:Nat) (m:KV) (L:List Ent) (t n:Int) (r_n:R4 n) (hk:KOK Try.mk249 m) (hl:L.length<=1000000):pool_Gain_A b bm bh bj m L t n (fun za zh zv zu zp=>CallT Try.prog 74 za zh (Int×BS) zv zu zp):=by
  refine call_of (c:=bodyOf Try.f74) (n:=11) (fn:=Try.f74) Try.mixed Try.func74 (by kernel_rfl) (by kernel_rfl) (by kernel_rfl) 2000 _ [] [0,1,2] rfl rfl (Eq.mpr (pool_Gain_vc b bm bh bj m L t n) ?_)
  intro b1
  refine pool_change_Gain_m b bm bh bj m L t b1 n (fun x2 h1=> ?_)
  have hx:=h1
  exact ⟨_,by rw [num_vI r_n];exact hx,rfl,rfl,rfl,rfl,trivial⟩
abbrev pool_Gain_K (b bm bh bj:Nat) (m:KV) (L:List Ent) (t n:Int) (KK:(Int×BS)->Prop):Prop:=pool_Gain_A b bm bh bj m L t n (fun za zh zv zu zp=>callQ Try.prog 74 za zh (Int×BS) zv zu zp KK)
theorem pool_Gain_m (b bm bh bj:Nat) (m:KV) (L:List Ent) (t n:Int) {KK:(Int×BS)->Prop} (kont: ∀zx:Int×BS,(zx=pChg (Try.ent249 bm) cGain ((m,[],L):BS) t n)->KK zx) (r_n:R4 n:=by assumption) (hk:KOK Try.mk249 m:=by assumption) (hl:L.length<=1000000:=by omega):pool_Gain_K b bm bh bj m L t n KK:=callQ_mk (pool_Gain b bm bh bj m L t n r_n hk hl) (⟨_,rfl⟩) fun zx hz=>by
  try simp only [num_vI (n:=n) r_n] at hz
  exact kont zx hz
noncomputable def pool_Reserve_C:List Value->List Slot->Ctr:=fun vs hs=>⟨Int×BS,fun zx=> .int .i64 zx.1,fun zx=> [.blk (vblk (varg vs 1)) (.cells #[.pointer (some ⟨(vblk (scell (sarg hs 0) 0)),0,none⟩), .pointer (some ⟨(vblk (scell (sarg hs 0) 1)),0,none⟩), .slice none 0 0] 151 (0,0)),(mS Try.mk249 (vblk (scell (sarg hs 0) 0)) (snum (sarg hs 1) 1) zx.2.1),(jS Try.jk (snum (sarg hs 1) 1) zx.2.2.2)],fun zx=>zx=pChg (Try.ent249 (vblk (scell (sarg hs 0) 0))) cRes (((skv (sarg hs 1)),[],(sents (sarg hs 2))):BS) (ci (varg vs 2)) (num (varg vs 3))⟩
abbrev pool_Reserve_Q (b bm bh bj:Nat) (m:KV) (L:List Ent) (t n:Int) (zv:Value) (zs0:Slot) (zs1:Slot) (zs2:Slot):Prop:= ∃zx:Int×BS,(zx=pChg (Try.ent249 bm) cRes ((m,[],L):BS) t (num (vI n)))/\zv= .int .i64 zx.1/\zs0=bk b #[pp bm 0,pp bh 0, .slice none 0 0] 151/\zs1=(mS Try.mk249 bm bj zx.2.1)/\zs2=(jS Try.jk bj zx.2.2.2)/\True
abbrev pool_Reserve_A (b bm bh bj:Nat) (m:KV) (L:List Ent) (t n:Int) (zF:SF (Int×BS)):Prop:=zF #[pp b 0, .int .u8 t,vI n] [bk b #[pp bm 0,pp bh 0, .slice none 0 0] 151,(mS Try.mk249 bm bj m),(jS Try.jk bj L)] (fun zx=> .int .i64 zx.1) (fun zx=> [bk b #[pp bm 0,pp bh 0, .slice none 0 0] 151,(mS Try.mk249 bm bj zx.2.1),(jS Try.jk bj zx.2.2.2)]) (fun zx=>(zx=pChg (Try.ent249 bm) cRes ((m,[],L):BS) t (num (vI n))))
set_option maxRecDepth 100000 in
theorem pool_Reserve_vc (b bm bh bj:Nat) (m:KV) (L:List Ent) (t n:Int):pool_Reserve_A b bm bh bj m L t n (fun za zh zv zu zp=>codeW Try.prog 11 none 2000 none (bodyOf Try.f75) (.reg [.sem [.nw 3],S0] (.reg [S0,S0,S0, .callw [0,1,2,3] [0,1,2,3] pool_change_Reserve_C,S0] (.done)))
    (init za zh) (finW Try.prog Try.f75 [] [0,1,2] (X:=Int×BS) zv zu zp))=
    (∀b1:Nat,pool_change_Reserve_K b bm bh bj m L t b1 n (fun x2=>pool_Reserve_Q b bm bh bj m L t n (Value.int .i64 x2.1) (bk b #[pp bm 0,pp bh 0, .slice none 0 0] 151) (mS Try.mk249 bm bj x2.2.1) (jS Try.jk bj x2.2.2.2))):=by kernel_rfl
set_option maxRecDepth 100000 in
theorem pool_Reserve (b bm bh bj:Nat) (m:KV) (L:List Ent) (t n:Int) (r_n:R4 n) (hk:KOK Try.mk249 m) (hl:L.length<=1000000):pool_Reserve_A b bm bh bj m L t n (fun za zh zv zu zp=>CallT Try.prog 75 za zh (Int×BS) zv zu zp):=by
  refine call_of (c:=bodyOf Try.f75) (n:=11) (fn:=Try.f75) Try.mixed Try.func75 (by kernel_rfl) (by kernel_rfl) (by kernel_rfl) 2000 _ [] [0,1,2] rfl rfl (Eq.mpr (pool_Reserve_vc b bm bh bj m L t n) ?_)
  intro b1
  refine pool_change_Reserve_m b bm bh bj m L t b1 n (fun x2 h1=> ?_)
  have hx:=h1
  exact ⟨_,by rw [num_vI r_n];exact hx,rfl,rfl,rfl,rfl,trivial⟩
abbrev pool_Reserve_K (b bm bh bj:Nat) (m:KV) (L:List Ent) (t n:Int) (KK:(Int×BS)->Prop):Prop:=pool_Reserve_A b bm bh bj m L t n (fun za zh zv zu zp=>callQ Try.prog 75 za zh (Int×BS) zv zu zp KK)
theorem pool_Reserve_m (b bm bh bj:Nat) (m:KV) (L:List Ent) (t n:Int) {KK:(Int×BS)->Prop} (kont: ∀zx:Int×BS,(zx=pChg (Try.ent249 bm) cRes ((m,[],L):BS) t n)->KK zx) (r_n:R4 n:=by assumption) (hk:KOK Try.mk249 m:=by assumption) (hl:L.length<=1000000:=by omega):pool_Reserve_K b bm bh bj m L t n KK:=callQ_mk (pool_Reserve b bm bh bj m L t n r_n hk hl) (⟨_,rfl⟩) fun zx hz=>by
  try simp only [num_vI (n:=n) r_n] at hz
  exact kont zx hz
noncomputable def pool_Release_C:List Value->List Slot->Ctr:=fun vs hs=>⟨Int×BS,fun zx=> .int .i64 zx.1,fun zx=> [.blk (vblk (varg vs 1)) (.cells #[.pointer (some ⟨(vblk (scell (sarg hs 0) 0)),0,none⟩), .pointer (some ⟨(vblk (scell (sarg hs 0) 1)),0,none⟩), .slice none 0 0] 151 (0,0)),(mS Try.mk249 (vblk (scell (sarg hs 0) 0)) (snum (sarg hs 1) 1) zx.2.1),(jS Try.jk (snum (sarg hs 1) 1) zx.2.2.2)],fun zx=>zx=pChg (Try.ent249 (vblk (scell (sarg hs 0) 0))) cRel (((skv (sarg hs 1)),[],(sents (sarg hs 2))):BS) (ci (varg vs 2)) (num (varg vs 3))⟩
abbrev pool_Release_Q (b bm bh bj:Nat) (m:KV) (L:List Ent) (t n:Int) (zv:Value) (zs0:Slot) (zs1:Slot) (zs2:Slot):Prop:= ∃zx:Int×BS,(zx=pChg (Try.ent249 bm) cRel ((m,[],L):BS) t (num (vI n)))/\zv= .int .i64 zx.1/\zs0=bk b #[pp bm 0,pp bh 0, .slice none 0 0] 151/\zs1=(mS Try.mk249 bm bj zx.2.1)/\zs2=(jS Try.jk bj zx.2.2.2)/\True
abbrev pool_Release_A (b bm bh bj:Nat) (m:KV) (L:List Ent) (t n:Int) (zF:SF (Int×BS)):Prop:=zF #[pp b 0, .int .u8 t,vI n] [bk b #[pp bm 0,pp bh 0, .slice none 0 0] 151,(mS Try.mk249 bm bj m),(jS Try.jk bj L)] (fun zx=> .int .i64 zx.1) (fun zx=> [bk b #[pp bm 0,pp bh 0, .slice none 0 0] 151,(mS Try.mk249 bm bj zx.2.1),(jS Try.jk bj zx.2.2.2)]) (fun zx=>(zx=pChg (Try.ent249 bm) cRel ((m,[],L):BS) t (num (vI n))))
set_option maxRecDepth 100000 in
theorem pool_Release_vc (b bm bh bj:Nat) (m:KV) (L:List Ent) (t n:Int):pool_Release_A b bm bh bj m L t n (fun za zh zv zu zp=>codeW Try.prog 11 none 2000 none (bodyOf Try.f76) (.reg [.sem [.nw 3],S0] (.reg [S0,S0,S0, .callw [0,1,2,3] [0,1,2,3] pool_change_Release_C,S0] (.done)))
    (init za zh) (finW Try.prog Try.f76 [] [0,1,2] (X:=Int×BS) zv zu zp))=
    (∀b1:Nat,pool_change_Release_K b bm bh bj m L t b1 n (fun x2=>pool_Release_Q b bm bh bj m L t n (Value.int .i64 x2.1) (bk b #[pp bm 0,pp bh 0, .slice none 0 0] 151) (mS Try.mk249 bm bj x2.2.1) (jS Try.jk bj x2.2.2.2))):=by kernel_rfl
set_option maxRecDepth 100000 in
theorem pool_Release (b bm bh bj:Nat) (m:KV) (L:List Ent) (t n:Int) (r_n:R4 n) (hk:KOK Try.mk249 m) (hl:L.length<=1000000):pool_Release_A b bm bh bj m L t n (fun za zh zv zu zp=>CallT Try.prog 76 za zh (Int×BS) zv zu zp):=by
  refine call_of (c:=bodyOf Try.f76) (n:=11) (fn:=Try.f76) Try.mixed Try.func76 (by kernel_rfl) (by kernel_rfl) (by kernel_rfl) 2000 _ [] [0,1,2] rfl rfl (Eq.mpr (pool_Release_vc b bm bh bj m L t n) ?_)
  intro b1
  refine pool_change_Release_m b bm bh bj m L t b1 n (fun x2 h1=> ?_)
  have hx:=h1
  exact ⟨_,by rw [num_vI r_n];exact hx,rfl,rfl,rfl,rfl,trivial⟩
abbrev pool_Release_K (b bm bh bj:Nat) (m:KV) (L:List Ent) (t n:Int) (KK:(Int×BS)->Prop):Prop:=pool_Release_A b bm bh bj m L t n (fun za zh zv zu zp=>callQ Try.prog 76 za zh (Int×BS) zv zu zp KK)
theorem pool_Release_m (b bm bh bj:Nat) (m:KV) (L:List Ent) (t n:Int) {KK:(Int×BS)->Prop} (kont: ∀zx:Int×BS,(zx=pChg (Try.ent249 bm) cRel ((m,[],L):BS) t n)->KK zx) (r_n:R4 n:=by assumption) (hk:KOK Try.mk249 m:=by assumption) (hl:L.length<=1000000:=by omega):pool_Release_K b bm bh bj m L t n KK:=callQ_mk (pool_Release b bm bh bj m L t n r_n hk hl) (⟨_,rfl⟩) fun zx hz=>by
  try simp only [num_vI (n:=n) r_n] at hz
  exact kont zx hz
noncomputable def pool_Front_C:List Value->List Slot->Ctr:=fun vs hs=>⟨Int×BS,fun zx=> .int .i64 zx.1,fun zx=> [.blk (vblk (varg vs 1)) (.cells #[.pointer (some ⟨(vblk (scell (sarg hs 0) 0)),0,none⟩), .pointer (some ⟨(vblk (scell (sarg hs 0) 1)),0,none⟩), .slice none 0 0] 151 (0,0)),(mS Try.mk249 (vblk (scell (sarg hs 0) 0)) (snum (sarg hs 1) 1) zx.2.1),(jS Try.jk (snum (sarg hs 1) 1) zx.2.2.2)],fun zx=>zx=pChg (Try.ent249 (vblk (scell (sarg hs 0) 0))) cFront (((skv (sarg hs 1)),[],(sents (sarg hs 2))):BS) (ci (varg vs 2)) (num (varg vs 3))⟩
abbrev pool_Front_Q (b bm bh bj:Nat) (m:KV) (L:List Ent) (t n:Int) (zv:Value) (zs0:Slot) (zs1:Slot) (zs2:Slot):Prop:= ∃zx:Int×BS,(zx=pChg (Try.ent249 bm) cFront ((m,[],L):BS) t (num (vI n)))/\zv= .int .i64 zx.1/\zs0=bk b #[pp bm 0,pp bh 0, .slice none 0 0] 151/\zs1=(mS Try.mk249 bm bj zx.2.1)/\zs2=(jS Try.jk bj zx.2.2.2)/\True
abbrev pool_Front_A (b bm bh bj:Nat) (m:KV) (L:List Ent) (t n:Int) (zF:SF (Int×BS)):Prop:=zF #[pp b 0, .int .u8 t,vI n] [bk b #[pp bm 0,pp bh 0, .slice none 0 0] 151,(mS Try.mk249 bm bj m),(jS Try.jk bj L)] (fun zx=> .int .i64 zx.1) (fun zx=> [bk b #[pp bm 0,pp bh 0, .slice none 0 0] 151,(mS Try.mk249 bm bj zx.2.1),(jS Try.jk bj zx.2.2.2)]) (fun zx=>(zx=pChg (Try.ent249 bm) cFront ((m,[],L):BS) t (num (vI n))))
set_option maxRecDepth 100000 in
theorem pool_Front_vc (b bm bh bj:Nat) (m:KV) (L:List Ent) (t n:Int):pool_Front_A b bm bh bj m L t n (fun za zh zv zu zp=>codeW Try.prog 11 none 2000 none (bodyOf Try.f63) (.reg [.sem [.nw 3],S0] (.reg [S0,S0,S0, .callw [0,1,2,3] [0,1,2,3] pool_change_Front_C,S0] (.done)))
    (init za zh) (finW Try.prog Try.f63 [] [0,1,2] (X:=Int×BS) zv zu zp))=
    (∀b1:Nat,pool_change_Front_K b bm bh bj m L t b1 n (fun x2=>pool_Front_Q b bm bh bj m L t n (Value.int .i64 x2.1) (bk b #[pp bm 0,pp bh 0, .slice none 0 0] 151) (mS Try.mk249 bm bj x2.2.1) (jS Try.jk bj x2.2.2.2))):=by kernel_rfl
set_option maxRecDepth 100000 in
theorem pool_Front (b bm bh bj:Nat) (m:KV) (L:List Ent) (t n:Int) (r_n:R4 n) (hk:KOK Try.mk249 m) (hl:L.length<=1000000):pool_Front_A b bm bh bj m L t n (fun za zh zv zu zp=>CallT Try.prog 63 za zh (Int×BS) zv zu zp):=by
  refine call_of (c:=bodyOf Try.f63) (n:=11) (fn:=Try.f63) Try.mixed Try.func63 (by kernel_rfl) (by kernel_rfl) (by kernel_rfl) 2000 _ [] [0,1,2] rfl rfl (Eq.mpr (pool_Front_vc b bm bh bj m L t n) ?_)
  intro b1
  refine pool_change_Front_m b bm bh bj m L t b1 n (fun x2 h1=> ?_)
  have hx:=h1
  exact ⟨_,by rw [num_vI r_n];exact hx,rfl,rfl,rfl,rfl,trivial⟩
abbrev pool_Front_K (b bm bh bj:Nat) (m:KV) (L:List Ent) (t n:Int) (KK:(Int×BS)->Prop):Prop:=pool_Front_A b bm bh bj m L t n (fun za zh zv zu zp=>callQ Try.prog 63 za zh (Int×BS) zv zu zp KK)
theorem pool_Front_m (b bm bh bj:Nat) (m:KV) (L:List Ent) (t n:Int) {KK:(Int×BS)->Prop} (kont: ∀zx:Int×BS,(zx=pChg (Try.ent249 bm) cFront ((m,[],L):BS) t n)->KK zx) (r_n:R4 n:=by assumption) (hk:KOK Try.mk249 m:=by assumption) (hl:L.length<=1000000:=by omega):pool_Front_K b bm bh bj m L t n KK:=callQ_mk (pool_Front b bm bh bj m L t n r_n hk hl) (⟨_,rfl⟩) fun zx hz=>by
  try simp only [num_vI (n:=n) r_n] at hz
  exact kont zx hz
noncomputable def pool_Repay_C:List Value->List Slot->Ctr:=fun vs hs=>⟨Int×BS,fun zx=> .int .i64 zx.1,fun zx=> [.blk (vblk (varg vs 1)) (.cells #[.pointer (some ⟨(vblk (scell (sarg hs 0) 0)),0,none⟩), .pointer (some ⟨(vblk (scell (sarg hs 0) 1)),0,none⟩), .slice none 0 0] 151 (0,0)),(mS Try.mk249 (vblk (scell (sarg hs 0) 0)) (snum (sarg hs 1) 1) zx.2.1),(jS Try.jk (snum (sarg hs 1) 1) zx.2.2.2)],fun zx=>zx=pChg (Try.ent249 (vblk (scell (sarg hs 0) 0))) cRepay (((skv (sarg hs 1)),[],(sents (sarg hs 2))):BS) (ci (varg vs 2)) (num (varg vs 3))⟩
abbrev pool_Repay_Q (b bm bh bj:Nat) (m:KV) (L:List Ent) (t n:Int) (zv:Value) (zs0:Slot) (zs1:Slot) (zs2:Slot):Prop:= ∃zx:Int×BS,(zx=pChg (Try.ent249 bm) cRepay ((m,[],L):BS) t (num (vI n)))/\zv= .int .i64 zx.1/\zs0=bk b #[pp bm 0,pp bh 0, .slice none 0 0] 151/\zs1=(mS Try.mk249 bm bj zx.2.1)/\zs2=(jS Try.jk bj zx.2.2.2)/\True
abbrev pool_Repay_A (b bm bh bj:Nat) (m:KV) (L:List Ent) (t n:Int) (zF:SF (Int×BS)):Prop:=zF #[pp b 0, .int .u8 t,vI n] [bk b #[pp bm 0,pp bh 0, .slice none 0 0] 151,(mS Try.mk249 bm bj m),(jS Try.jk bj L)] (fun zx=> .int .i64 zx.1) (fun zx=> [bk b #[pp bm 0,pp bh 0, .slice none 0 0] 151,(mS Try.mk249 bm bj zx.2.1),(jS Try.jk bj zx.2.2.2)]) (fun zx=>(zx=pChg (Try.ent249 bm) cRepay ((m,[],L):BS) t (num (vI n))))
set_option maxRecDepth 100000 in
theorem pool_Repay_vc (b bm bh bj:Nat) (m:KV) (L:List Ent) (t n:Int):pool_Repay_A b bm bh bj m L t n (fun za zh zv zu zp=>codeW Try.prog 11 none 2000 none (bodyOf Try.f77) (.reg [.sem [.nw 3],S0] (.reg [S0,S0,S0, .callw [0,1,2,3] [0,1,2,3] pool_change_Repay_C,S0] (.done)))
    (init za zh) (finW Try.prog Try.f77 [] [0,1,2] (X:=Int×BS) zv zu zp))=
    (∀b1:Nat,pool_change_Repay_K b bm bh bj m L t b1 n (fun x2=>pool_Repay_Q b bm bh bj m L t n (Value.int .i64 x2.1) (bk b #[pp bm 0,pp bh 0, .slice none 0 0] 151) (mS Try.mk249 bm bj x2.2.1) (jS Try.jk bj x2.2.2.2))):=by kernel_rfl
set_option maxRecDepth 100000 in
theorem pool_Repay (b bm bh bj:Nat) (m:KV) (L:List Ent) (t n:Int) (r_n:R4 n) (hk:KOK Try.mk249 m) (hl:L.length<=1000000):pool_Repay_A b bm bh bj m L t n (fun za zh zv zu zp=>CallT Try.prog 77 za zh (Int×BS) zv zu zp):=by
  refine call_of (c:=bodyOf Try.f77) (n:=11) (fn:=Try.f77) Try.mixed Try.func77 (by kernel_rfl) (by kernel_rfl) (by kernel_rfl) 2000 _ [] [0,1,2] rfl rfl (Eq.mpr (pool_Repay_vc b bm bh bj m L t n) ?_)
  intro b1
  refine pool_change_Repay_m b bm bh bj m L t b1 n (fun x2 h1=> ?_)
  have hx:=h1
  exact ⟨_,by rw [num_vI r_n];exact hx,rfl,rfl,rfl,rfl,trivial⟩
abbrev pool_Repay_K (b bm bh bj:Nat) (m:KV) (L:List Ent) (t n:Int) (KK:(Int×BS)->Prop):Prop:=pool_Repay_A b bm bh bj m L t n (fun za zh zv zu zp=>callQ Try.prog 77 za zh (Int×BS) zv zu zp KK)
theorem pool_Repay_m (b bm bh bj:Nat) (m:KV) (L:List Ent) (t n:Int) {KK:(Int×BS)->Prop} (kont: ∀zx:Int×BS,(zx=pChg (Try.ent249 bm) cRepay ((m,[],L):BS) t n)->KK zx) (r_n:R4 n:=by assumption) (hk:KOK Try.mk249 m:=by assumption) (hl:L.length<=1000000:=by omega):pool_Repay_K b bm bh bj m L t n KK:=callQ_mk (pool_Repay b bm bh bj m L t n r_n hk hl) (⟨_,rfl⟩) fun zx hz=>by
  try simp only [num_vI (n:=n) r_n] at hz
  exact kont zx hz
noncomputable def ref17_Add_C:List Value->List Slot->Ctr:=fun vs hs=>⟨Int×Bool,fun zx=> .tuple #[vI zx.1, .bool zx.2],fun _=>hs,fun zx=>R4 zx.1/\zx=rInt ((num (varg vs 1))+(num (varg vs 2)))⟩
abbrev ref17_Add_Q (a b:Int) (zv:Value) :Prop:= ∃zx:Int×Bool,(R4 zx.1/\zx=rInt ((num (vI a))+(num (vI b))))/\zv= .tuple #[vI zx.1, .bool zx.2]/\True
abbrev ref17_Add_A (a b:Int) (zF:SF (Int×Bool)):Prop:=zF #[vI a,vI b] [] (fun zx=> .tuple #[vI zx.1, .bool zx.2]) (fun zx=> []) (fun zx=>(R4 zx.1/\zx=rInt ((num (vI a))+(num (vI b)))))
set_option maxRecDepth 100000 in
theorem ref17_Add_vc (a b:Int):ref17_Add_A a b (fun za zh zv zu zp=>codeW Try.prog 14 none 2000 none (bodyOf Try.f142) (.reg [.sem [.nw 0], .sem [.nw 1], .sem [.nw 2],S0] (.reg [.sem (rds 4 0), .callw [] [3] ref2_Row_C, .sem (rds 4 1), .callw [] [4] ref2_Row_C, .callw [3,4] [3,4,5] ref1_Add_C, .callw [5] [5] ref2_Int_C,S0,S0, .sem (wrs 4 2),S0] (.done)))
    (init za zh) (finW Try.prog Try.f142 [.rd 2, .rd 2, .rd 2, .rd 2] [] (X:=Int×Bool) zv zu zp))=
    (∀b1:Nat,∀b2:Nat,∀b3:Nat,rdQ 4 b1 (ref2_Row_K a (fun x4=>rdQ 4 b2 (ref2_Row_K b (fun x5=>ref1_Add_K x4 x5 (fun x6=>ref2_Int_K x6 (fun x7=>rdQ 4 b3 (rdQ 4 b3 (ref17_Add_Q a b (Value.tuple #[vI x7.1, .bool x7.2])))))))))):=by kernel_rfl
set_option maxRecDepth 100000 in
theorem ref17_Add (a b:Int) (r_a:R4 a) (r_b:R4 b):ref17_Add_A a b (fun za zh zv zu zp=>CallT Try.prog 142 za zh (Int×Bool) zv zu zp):=by
  refine call_of (c:=bodyOf Try.f142) (n:=14) (fn:=Try.f142) Try.mixed Try.func142 (by kernel_rfl) (by kernel_rfl) (by kernel_rfl) 2000 _ [.rd 2, .rd 2, .rd 2, .rd 2] [] rfl rfl (Eq.mpr (ref17_Add_vc a b) ?_)
  intro b1
  intro b2
  intro b3
  refine rdQ_mk 4 _ (ref2_Row_m a (fun x4 rh1_ h1=> ?_))
  have h1_:=h1
  have okh1_:RowOK x4:=by assumption
  have eh1_:=vlen_dg x4
  have ch1_:=canon_pos okh1_.dig h1_.2.1
  have lh1_:=h1_.2.2
  refine rdQ_mk 4 _ (ref2_Row_m b (fun x5 rh2_ h2=> ?_))
  have h2_:=h2
  have okh2_:RowOK x5:=by assumption
  have eh2_:=vlen_dg x5
  have ch2_:=canon_pos okh2_.dig h2_.2.1
  have lh2_:=h2_.2.2
  refine ref1_Add_m x4 x5 (fun x6 rh3_ h3=> ?_)
  have hs:=h3
  have ls:(dg x6).length<=65000:=by have:=len40 (RowOK.dig (by assumption)) hs.2 (hs.1.trans (by rw [h1_.1,h2_.1])) (wide_num (n:=a+b) (by have q1:=r_a.1;have q2:=r_b.1;have q3:=r_a.2;have q4:=r_b.2;unfold R8;omega));omega
  refine ref2_Int_m x6 (fun x7 rh4_1 h4=> ?_) (la:=ls)
  have hI:=h4
  exact rdQ_mk 4 _ (rdQ_mk 4 _ ⟨x7,⟨by assumption,by rw [num_vI r_a,num_vI r_b,hI,hs.1,h1_.1,h2_.1]⟩,rfl,trivial⟩)
abbrev ref17_Add_K (a b:Int) (KK:(Int×Bool)->Prop):Prop:=ref17_Add_A a b (fun za zh zv zu zp=>callQr Try.prog 142 za zh (Int×Bool) zv zp KK)
theorem ref17_Add_m (a b:Int) {KK:(Int×Bool)->Prop} (kont: ∀zx:Int×Bool,R4 zx.1->(zx=rInt (a+b))->KK zx) (r_a:R4 a:=by assumption) (r_b:R4 b:=by assumption):ref17_Add_K a b KK:=callQr_mk (ref17_Add a b r_a r_b) (⟨_,rInt_sum (by first | exact R4_num _ | exact r_a) (by first | exact R4_num _ | exact r_b),rfl⟩) fun zx hz=>by
  obtain ⟨rhz_1,hz⟩:=hz
  try simp only [num_vI (n:=a) r_a,num_vI (n:=b) r_b] at hz
  exact kont zx rhz_1 hz
noncomputable def ref17_Sub_C:List Value->List Slot->Ctr:=fun vs hs=>⟨Int×Bool,fun zx=> .tuple #[vI zx.1, .bool zx.2],fun _=>hs,fun zx=>R4 zx.1/\zx=rSub (num (varg vs 1)) (num (varg vs 2))⟩
abbrev ref17_Sub_Q (a b:Int) (zv:Value) :Prop:= ∃zx:Int×Bool,(R4 zx.1/\zx=rSub (num (vI a)) (num (vI b)))/\zv= .tuple #[vI zx.1, .bool zx.2]/\True
abbrev ref17_Sub_A (a b:Int) (zF:SF (Int×Bool)):Prop:=zF #[vI a,vI b] [] (fun zx=> .tuple #[vI zx.1, .bool zx.2]) (fun zx=> []) (fun zx=>(R4 zx.1/\zx=rSub (num (vI a)) (num (vI b))))
set_option maxRecDepth 100000 in
theorem ref17_Sub_vc (a b:Int):ref17_Sub_A a b (fun za zh zv zu zp=>codeW Try.prog 23 none 2000 none (bodyOf Try.f143) (.reg [.sem [.nw 0], .sem [.nw 1], .sem [.nw 2],S0] (.reg [.sem (rds 4 0), .callw [] [3] ref2_Row_C,S0] (.reg [.sem (rds 4 1), .callw [] [4] ref2_Row_C,S0] (.reg [S0,S0, .callr [3,4] ref1_Cmp_C,S0] (.cond (.reg [S0, .sem (wrs 4 2),S0] (.done)) (.reg [S0,S0, .callw [3,4] [3,4,5] ref1_Sub_C, .callw [5] [5] ref2_Int_C,S0,S0, .sem (wrs 4 2),S0] (.done)))))))
    (init za zh) (finW Try.prog Try.f143 [.rd 2, .rd 2, .rd 2, .rd 2] [] (X:=Int×Bool) zv zu zp))=
    (∀b1:Nat,∀b2:Nat,∀b3:Nat,rdQ 4 b1 (ref2_Row_K a (fun x4=>rdQ 4 b2 (ref2_Row_K b (fun x5=>ref1_Cmp_K x4 x5 (fun x6=>((decide (x6<(0:Int)))=true->rdQ 4 b3 (rdQ 4 b3 (ref17_Sub_Q a b (Value.tuple #[.agg #[uu 0,uu 0,uu 0,uu 0], .bool false]))))/\((decide (x6<(0:Int)))=false->ref1_Sub_K x4 x5 (fun x7=>ref2_Int_K x7 (fun x8=>rdQ 4 b3 (rdQ 4 b3 (ref17_Sub_Q a b (Value.tuple #[vI x8.1, .bool x8.2])))))))))))):=by kernel_rfl
set_option maxRecDepth 100000 in
theorem ref17_Sub (a b:Int) (r_a:R4 a) (r_b:R4 b):ref17_Sub_A a b (fun za zh zv zu zp=>CallT Try.prog 143 za zh (Int×Bool) zv zu zp):=by
  refine call_of (c:=bodyOf Try.f143) (n:=23) (fn:=Try.f143) Try.mixed Try.func143 (by kernel_rfl) (by kernel_rfl) (by kernel_rfl) 2000 _ [.rd 2, .rd 2, .rd 2, .rd 2] [] rfl rfl (Eq.mpr (ref17_Sub_vc a b) ?_)
  intro b1
  intro b2
  intro b3
  refine rdQ_mk 4 _ (ref2_Row_m a (fun x4 rh1_ h1=> ?_))
  have h1_:=h1
  have okh1_:RowOK x4:=by assumption
  have eh1_:=vlen_dg x4
  have ch1_:=canon_pos okh1_.dig h1_.2.1
  have lh1_:=h1_.2.2
  refine rdQ_mk 4 _ (ref2_Row_m b (fun x5 rh2_ h2=> ?_))
  have h2_:=h2
  have okh2_:RowOK x5:=by assumption
  have eh2_:=vlen_dg x5
  have ch2_:=canon_pos okh2_.dig h2_.2.1
  have lh2_:=h2_.2.2
  refine ref1_Cmp_m x4 x5 (fun x6 h3=> ?_)
  have hc_:=h3
  refine ⟨fun h4=> ?_,fun h4=> ?_⟩
  · refine rdQ_mk 4 _ (rdQ_mk 4 _ ?_)
    unfold ref17_Sub_Q
    have hlt:a<b:=by
      have cc:=hCmp_split hc_
      rw [h1_.1,h2_.1] at cc
      (try simp (disch:=first | assumption | exact R4_zero | exact R4_one) only [rdx] at *)
      omega
    exact ⟨(0,false),⟨R4_zero,by rw [num_vI r_a,num_vI r_b];unfold rSub;rw [if_pos hlt]⟩,by rw [vI_zero],trivial⟩
  have hle:b<=a:=by
    have cc:=hCmp_split hc_
    rw [h1_.1,h2_.1] at cc
    (try simp (disch:=first | assumption | exact R4_zero | exact R4_one) only [rdx] at *)
    omega
  refine ref1_Sub_m x4 x5 (fun x7 rh5_ h5=> ?_) (hle:=by rw [h1_.1,h2_.1];exact hle)
  have hs:=h5
  have ls:(dg x7).length<=65000:=by have:=len40 (RowOK.dig (by assumption)) hs.2 (hs.1.trans (by rw [h1_.1,h2_.1])) (wide_num (n:=a - b) (by have q1:=r_a.1;have q2:=r_b.1;have q3:=r_a.2;have q4:=r_b.2;unfold R8;omega));omega
  refine ref2_Int_m x7 (fun x8 rh6_1 h6=> ?_) (la:=ls)
  have hI:=h6
  refine rdQ_mk 4 _ (rdQ_mk 4 _ ?_)
  unfold ref17_Sub_Q
  have hI2:=hI
  rw [hs.1,h1_.1,h2_.1] at hI2
  exact ⟨x8,⟨by assumption,by rw [num_vI r_a,num_vI r_b,hI2];exact rSub_int hle r_a r_b⟩,rfl,trivial⟩
abbrev ref17_Sub_K (a b:Int) (KK:(Int×Bool)->Prop):Prop:=ref17_Sub_A a b (fun za zh zv zu zp=>callQr Try.prog 143 za zh (Int×Bool) zv zp KK)
theorem ref17_Sub_m (a b:Int) {KK:(Int×Bool)->Prop} (kont: ∀zx:Int×Bool,R4 zx.1->(zx=rSub a b)->KK zx) (r_a:R4 a:=by assumption) (r_b:R4 b:=by assumption):ref17_Sub_K a b KK:=callQr_mk (ref17_Sub a b r_a r_b) (⟨_,rSub_R (by first | exact R4_num _ | exact r_a) (by first | exact R4_num _ | exact r_b),rfl⟩) fun zx hz=>by
  obtain ⟨rhz_1,hz⟩:=hz
  try simp only [num_vI (n:=a) r_a,num_vI (n:=b) r_b] at hz
  exact kont zx rhz_1 hz
noncomputable def ref17_Assets_C:List Value->List Slot->Ctr:=fun vs hs=>⟨Int,fun zx=>vI zx,fun _=>hs,fun zx=>R4 zx/\zx=rAst (utn (varg vs 1)) (ci (varg vs 2)).toNat⟩
abbrev ref17_Assets_Q (xs:List Int) (t:Int) (zv:Value) :Prop:= ∃zx:Int,(R4 zx/\zx=rAst (utn (tnV xs)) t.toNat)/\zv=vI zx/\True
abbrev ref17_Assets_A (xs:List Int) (t:Int) (zF:SF Int):Prop:=zF #[tnV xs, .int .u8 t] [] (fun zx=>vI zx) (fun zx=> []) (fun zx=>(R4 zx/\zx=rAst (utn (tnV xs)) t.toNat))
set_option maxRecDepth 100000 in
theorem ref17_Assets_vc (xs:List Int) (t:Int):ref17_Assets_A xs t (fun za zh zv zu zp=>codeW Try.prog 22 none 2000 none (bodyOf Try.f141) (.reg [.specw [] [0] (F_tbox 42), .sem [.nw 1]] (.reg [S0,S0, .eq (f_tidx 16),S0, .specr [0] F_tget,S0,S0, .eq (f_tidx 16),S0, .specr [0] F_tget, .callr [] ref17_Add_C,S0,S0,S0, .sem [.nw 2], .sem (wrs 4 2),S0] (.reg [.sem (rds 4 2), .sem (wrs 4 1)] (.done))))
    (init za zh) (finW Try.prog Try.f141 [.rd 1, .rd 1, .rd 1, .rd 1] [] (X:=Int) zv zu zp))=
    (opQ Try.prog (vS (Instr.box 42 (tnV xs))) [] Nat (fun zx=>pp zx 0) (fun zx=> [(tb zx 42 (tnV xs))]) (fun zx=>True) (fun x1=> ∀b2:Nat,(PureRun Try.prog (vS (Instr.indexAt 38 (pp x1 0) (.int .u8 t))) (.pointer (some ⟨x1,(0+Int.toNat t*16),none⟩)))/\opQr Try.prog (vS (Instr.loadAt 25 (.pointer (some ⟨x1,(0+Int.toNat t*16),none⟩)))) [(tb x1 42 (tnV xs))] Int (fun zx=>vI zx) (fun zx=>R4 zx/\zx=tget (sval (tb x1 42 (tnV xs))) ((0+Int.toNat t*16)/4)) (fun x3=>(PureRun Try.prog (vS (Instr.indexAt 38 (pp x1 0) (.int .u8 t))) (.pointer (some ⟨x1,(0+Int.toNat t*16),none⟩)))/\opQr Try.prog (vS (Instr.loadAt 25 (.pointer (some ⟨x1,((0+Int.toNat t*16)+4),none⟩)))) [(tb x1 42 (tnV xs))] Int (fun zx=>vI zx) (fun zx=>R4 zx/\zx=tget (sval (tb x1 42 (tnV xs))) (((0+Int.toNat t*16)+4)/4)) (fun x4=>ref17_Add_K x3 x4 (fun x5=> ∀b6:Nat,rdQ 4 b6 (rdQ 4 b6 (rdQ 4 b2 (rdQ 4 b2 (ref17_Assets_Q xs t (vI x5.1)))))))))):=by kernel_rfl
set_option maxRecDepth 100000 in
theorem ref17_Assets (xs:List Int) (t:Int) (r_xs:okT 80 xs) (wt:(Lit.int .u8 t).wf=true) (ht:t<4):ref17_Assets_A xs t (fun za zh zv zu zp=>CallT Try.prog 141 za zh Int zv zu zp):=by
  refine call_of (c:=bodyOf Try.f141) (n:=22) (fn:=Try.f141) Try.mixed Try.func141 (by kernel_rfl) (by kernel_rfl) (by kernel_rfl) 2000 _ [.rd 1, .rd 1, .rd 1, .rd 1] [] rfl rfl (Eq.mpr (ref17_Assets_vc xs t) ?_)
  have wt' :=wf8' wt
  refine opQ_mk (xtbox 42 xs) (⟨0,trivial⟩) fun x1 h1=>fun b2=>⟨xaidxK (n:=4) (e:=37) (K:=16) (by kernel_rfl) (fun w=>by kernel_rfl) x1 0 .u8 t (wf8' wt).1 (by omega),opQr_mk (xtget (m:=80) (0+Int.toNat t*4) (fun w=>by kernel_rfl) (fun w=>by kernel_rfl) x1 42 (by assumption) (0+Int.toNat t*16) (by omega) (by omega)) (wtget (m:=80) (by assumption) _) fun x3 h2=> ?_⟩
  have rh2:=h2.1
  replace h2:=etget (m:=80) (n:=(0+Int.toNat t*4)) (by assumption) (by omega) h2
  have g1:=h2
  refine ⟨xaidxK (n:=4) (e:=37) (K:=16) (by kernel_rfl) (fun w=>by kernel_rfl) x1 0 .u8 t (wf8' wt).1 (by omega),opQr_mk (xtget (m:=80) ((0+Int.toNat t*4)+1) (fun w=>by kernel_rfl) (fun w=>by kernel_rfl) x1 42 (by assumption) ((0+Int.toNat t*16)+4) (by omega) (by omega)) (wtget (m:=80) (by assumption) _) fun x4 h3=> ?_⟩
  have rh3:=h3.1
  replace h3:=etget (m:=80) (n:=((0+Int.toNat t*4)+1)) (by assumption) (by omega) h3
  have g2:=h3
  refine ref17_Add_m x3 x4 (fun x5 rh4_1 h4=> ?_)
  have hI:=h4
  intro b6
  refine rdQ_mk 4 _ (rdQ_mk 4 _ (rdQ_mk 4 _ (rdQ_mk 4 _ ?_)))
  unfold ref17_Assets_Q
  have e1:0+t.toNat*4=4*t.toNat:=by omega
  have e2:0+t.toNat*4+1=4*t.toNat+1:=by omega
  rw [e1] at g1
  rw [e2] at g2
  exact ⟨_,⟨by assumption,by rw [utn_tnV r_xs,hI,g1,g2];rfl⟩,rfl,trivial⟩
abbrev ref17_Assets_K (xs:List Int) (t:Int) (KK:Int->Prop):Prop:=ref17_Assets_A xs t (fun za zh zv zu zp=>callQr Try.prog 141 za zh Int zv zp KK)
theorem ref17_Assets_m (xs:List Int) (t:Int) {KK:Int->Prop} (kont: ∀zx:Int,R4 zx->(zx=rAst xs t.toNat)->KK zx) (r_xs:okT 80 xs:=by assumption) (wt:(Lit.int .u8 t).wf=true:=by first | assumption | decide) (ht:t<4:=by (try simp (disch:=first | assumption | exact R4_zero | exact R4_one) only [rdx] at *);omega):ref17_Assets_K xs t KK:=callQr_mk (ref17_Assets xs t r_xs wt ht) (⟨_,rAst_R (m:=80) (by first | assumption | exact okT_zero _ | (rw [utn_tnV (n:=80) (by assumption)];assumption)) _,rfl⟩) fun zx hz=>by
  obtain ⟨rhz_,hz⟩:=hz
  try simp only [utn_tnV (xs:=xs) r_xs] at hz
  exact kont zx rhz_ hz
noncomputable def ref17_Join_C:List Value->List Slot->Ctr:=fun vs hs=>⟨List Int×Int×Int,fun zx=> .tuple #[tnV zx.1,vI zx.2.1, .int .i64 zx.2.2],fun _=>hs,fun zx=>okT 80 zx.1/\R4 zx.2.1/\zx=rJoin (utn (varg vs 1)) (ci (varg vs 2)) (ci (varg vs 3)) (num (varg vs 4))⟩
abbrev ref17_Join_Q (xs:List Int) (t a n:Int) (zv:Value) :Prop:= ∃zx:List Int×Int×Int,(okT 80 zx.1/\R4 zx.2.1/\zx=rJoin (utn (tnV xs)) t a (num (vI n)))/\zv= .tuple #[tnV zx.1,vI zx.2.1, .int .i64 zx.2.2]/\True
abbrev ref17_Join_A (xs:List Int) (t a n:Int) (zF:SF (List Int×Int×Int)):Prop:=zF #[tnV xs, .int .u8 t, .int .u8 a,vI n] [] (fun zx=> .tuple #[tnV zx.1,vI zx.2.1, .int .i64 zx.2.2]) (fun zx=> []) (fun zx=>(okT 80 zx.1/\R4 zx.2.1/\zx=rJoin (utn (tnV xs)) t a (num (vI n))))
end Go.Proofs
