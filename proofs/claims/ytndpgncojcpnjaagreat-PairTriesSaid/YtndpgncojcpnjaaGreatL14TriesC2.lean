/- Contracts of this program's functions, and their proofs, printed by a program of the prover's own (see the claim's other texts for what the words mean). -/
import Derived.Test.YtndpgncojcpnjaaGreatL14TriesC1
set_option linter.unusedVariables false
set_option linter.unusedSimpArgs false
namespace Go.Proofs
open Go.Sx
set_option maxRecDepth 100000 in
theorem law14_few_vc (w:World) (l:Value) (ls:List StT):codeW Tryz.prog 19 none 2000 none (bodyOf Tryz.f6) (.reg [S0] (.reg [S0, .eq (f_len),S0] (.inv Nat (fun zx=> [(0,l),(5,l),(6, .int .i64 ((vlen l:Nat):Int)),(7, .int .i64 ((zx:Nat):Int))]) (fun zx=> [(0,(old w))]) (fun zx=>zx<=ls.length/\ ∀j:Nat,j<zx->(gx ls j).2.2.1.2.length<=10) (fun zx=>ls.length - zx) (fun x1=> .reg [S0] (.cond (.reg [.eq (f_oidx 4), .specr [0] (F_old Tryz.el40 (Tryz.el40_ok w)), .sem [.nw 1], .specw [1] [1] F_putS] (.reg [S0, .sem [.rd 1], .eq (f_len),S0] (.cond (.reg [S0] (.done)) (.reg [.gen [] (fun vs=>Sx.one (.int .i64 (ci (varg vs 0)+ci (varg vs 1))) vs),S0] (.done))))) (.reg [S0, .eq (f_len),S0,S0] (.done)))))))
    (init #[l] [(old w)]) (finW Tryz.prog Tryz.f6 [] [0] (X:=Unit) (fun _=> .bool (fewB ls)) (fun _=> [(old w)]) (fun _=>True))=
    ((PureRun Tryz.prog (vS (Builtin.len_ #[22] 3 #[l])) (.int .i64 ((vlen l:Nat):Int)))/\(∃zx:Nat,(zx<=ls.length/\ ∀j:Nat,j<zx->(gx ls j).2.2.1.2.length<=10)/\l=l/\l=l/\Value.int .i64 ((vlen l:Nat):Int)= .int .i64 ((vlen l:Nat):Int)/\Value.int .i64 0= .int .i64 ((zx:Nat):Int)/\(old w)=(old w)/\True)/\ ∀x1:Nat,∀jx1:Nat->Value,(x1<=ls.length/\ ∀j:Nat,j<x1->(gx ls j).2.2.1.2.length<=10)->((decide (((x1:Nat):Int)<((vlen l:Nat):Int)))=true->(PureRun Tryz.prog (vS (Instr.indexAt 22 l (.int .i64 ((x1:Nat):Int)))) (.pointer (some ⟨(vblk l),(voff l+(Int.toNat ((x1:Nat):Int))*4),none⟩)))/\opQr Tryz.prog (vS (Instr.loadAt 40 (.pointer (some ⟨(vblk l),(voff l+(Int.toNat ((x1:Nat):Int))*4),none⟩)))) [(old w)] StT (fun zx=> .agg #[.int .u8 zx.1,uu zx.2.1,zx.2.2.1.1, .int .i64 zx.2.2.2]) (fun zx=>((Tryz.el40_ok w)) zx/\ ∃w',old w=old w' /\At w' (.pointer (some ⟨(vblk l),(voff l+(Int.toNat ((x1:Nat):Int))*4),none⟩)) ((Tryz.el40) zx).cells.toList) (fun x2=> ∀b3:Nat,opQ Tryz.prog (skS (Instr.storeAt 40 (pp b3 0) (.agg #[.int .u8 x2.1,uu x2.2.1,x2.2.2.1.1, .int .i64 x2.2.2.2]))) [bk b3 #[.int .u8 0,uu 0, .slice none 0 0, .int .i64 0] 40] Unit (fun _=> .tuple #[]) (fun _=> [bk b3 #[.int .u8 x2.1,uu x2.2.1,x2.2.2.1.1, .int .i64 x2.2.2.2] 40]) (fun _=>True) (fun _=>rdQ 1 b3 ((PureRun Tryz.prog (vS (Builtin.len_ #[38] 3 #[x2.2.2.1.1])) (.int .i64 ((vlen x2.2.2.1.1:Nat):Int)))/\((decide (((vlen x2.2.2.1.1:Nat):Int)>(10:Int)))=true->law14_few_Q w l ls (Value.bool false) (old w))/\((decide (((vlen x2.2.2.1.1:Nat):Int)>(10:Int)))=false->(∃_:Unit,True/\Value.int .i64 (IntKind.i64.wrap (((x1:Nat):Int)+1))= .int .i64 (((x1:Nat):Int)+1))/\ ∀_:Unit,(True)-> ∃zy:Nat,(zy<=ls.length/\ ∀j:Nat,j<zy->(gx ls j).2.2.1.2.length<=10)/\ls.length - zy<ls.length - x1/\l=l/\l=l/\Value.int .i64 ((vlen l:Nat):Int)= .int .i64 ((vlen l:Nat):Int)/\Value.int .i64 (((x1:Nat):Int)+1)= .int .i64 ((zy:Nat):Int)/\(old w)=(old w)/\True)))))/\((decide (((x1:Nat):Int)<((vlen l:Nat):Int)))=false->(PureRun Tryz.prog (vS (Builtin.len_ #[22] 3 #[l])) (.int .i64 ((vlen l:Nat):Int)))/\law14_few_Q w l ls (Value.bool (decide (((vlen l:Nat):Int)<=(20:Int)))) (old w))):=by kernel_rfl
set_option maxRecDepth 100000 in
theorem law14_few (w:World) (l:Value) (ls:List StT) (h_l:SlX w 4 (X:=StT) Tryz.el40 (Tryz.el40_ok w) l ls) (ml:ls.length<=9223372036854775807):CallT Tryz.prog 6 #[l] [(old w)] Unit (fun _=> .bool (fewB ls)) (fun _=> [(old w)]) (fun _=>True):=by
  refine call_of (c:=bodyOf Tryz.f6) (n:=19) (fn:=Tryz.f6) Tryz.mixed Tryz.func6 (by kernel_rfl) (by kernel_rfl) (by kernel_rfl) 2000 _ [] [0] rfl rfl (Eq.mpr (law14_few_vc w l ls) ?_)
  have vl:=h_l.vlen
  refine ⟨xolen Tryz.elt22 h_l.sl 3,⟨?_,fun x1 jx1 h1=> ?_⟩⟩
  · exact ⟨0,⟨Nat.zero_le _,fun j h=>absurd h (Nat.not_lt_zero _)⟩,rfl,rfl,rfl,rfl,rfl,trivial⟩
  obtain ⟨hi0,hal⟩:=h1
  refine ⟨fun h2=> ?_,fun h2=> ?_⟩
  · refine ⟨xoidx Tryz.elt22 h_l.sl .i64 ((x1:Nat):Int) (by omega) (by rw [List.length_map];(try simp only [decide_eq_true_eq,decide_eq_false_iff_not,gt_iff_lt,ge_iff_le,Int.not_lt,Int.not_le] at *);omega),opQr_mk (xold Tryz.elk40 h_l (Int.toNat ((x1:Nat):Int)) (gx_some (xs:=ls) (i:=(Int.toNat ((x1:Nat):Int))) (by (try simp only [decide_eq_true_eq,decide_eq_false_iff_not,gt_iff_lt,ge_iff_le,Int.not_lt,Int.not_le] at *);omega))) (wold h_l (Int.toNat ((x1:Nat):Int)) (gx_some (xs:=ls) (i:=(Int.toNat ((x1:Nat):Int))) (by (try simp only [decide_eq_true_eq,decide_eq_false_iff_not,gt_iff_lt,ge_iff_le,Int.not_lt,Int.not_le] at *);omega))) fun x2 h3=> ?_⟩
    have kh3:=h3.1
    replace h3:=eold Tryz.elk40 h_l (Int.toNat ((x1:Nat):Int)) (gx_some (xs:=ls) (i:=(Int.toNat ((x1:Nat):Int))) (by (try simp only [decide_eq_true_eq,decide_eq_false_iff_not,gt_iff_lt,ge_iff_le,Int.not_lt,Int.not_le] at *);omega)) h3
    obtain ⟨w1,w2,⟨hc_,hso⟩,w4⟩:=kh3
    have hlt:x1<ls.length:=by (try simp only [decide_eq_true_eq,decide_eq_false_iff_not,gt_iff_lt,ge_iff_le,Int.not_lt,Int.not_le] at *);omega
    have vl2:=hso.vlen
    have hg:=gx_some (xs:=ls) (i:=x1) hlt
    have e1:gx ls x1=x2:=by rw [h3,Int.toNat_natCast]
    intro b3
    refine opQ_mk (xputS (k:=4) (b:=b3) (cs:= #[.int .u8 0,uu 0, .slice none 0 0, .int .i64 0]) (ty:=40) (te:=40) (fun w=>by kernel_rfl) (.agg #[.int .u8 x2.1,uu x2.2.1,x2.2.2.1.1, .int .i64 x2.2.2.2]) rfl rfl (one_st hso.one)) (⟨(),trivial⟩) fun _ _=>rdQ_mk 1 _ ⟨xolen Tryz.elt38 hso.sl 3,⟨fun h4=> ?_,fun h4=> ?_⟩⟩
    · have hm:gx ls x1∈ls:=List.mem_of_getElem? hg
      exact ⟨(),trivial,congrArg Value.bool (fewB_no hm (by rw [e1];(try simp only [decide_eq_true_eq,decide_eq_false_iff_not,gt_iff_lt,ge_iff_le,Int.not_lt,Int.not_le] at *);omega)).symm,rfl,trivial⟩
    refine ⟨⟨(),trivial,congrArg (Value.int .i64) (wrap_i64 _ (by omega) (by (try simp only [decide_eq_true_eq,decide_eq_false_iff_not,gt_iff_lt,ge_iff_le,Int.not_lt,Int.not_le] at *);omega))⟩,fun _=>fun _=> ?_⟩
    have hal2: ∀j:Nat,j<x1+1->(gx ls j).2.2.1.2.length<=10:=by
      intro j hj
      rcases Nat.lt_or_ge j x1 with q | q
      · exact hal j q
      · rw [show j=x1 by omega,e1];(try simp only [decide_eq_true_eq,decide_eq_false_iff_not,gt_iff_lt,ge_iff_le,Int.not_lt,Int.not_le] at *);omega
    exact ⟨x1+1,⟨hlt,hal2⟩,by omega,rfl,rfl,rfl,congrArg (Value.int .i64) (by omega),rfl,trivial⟩
  refine ⟨xolen Tryz.elt22 h_l.sl 3,?_⟩
  have hi:x1=ls.length:=by (try simp only [decide_eq_true_eq,decide_eq_false_iff_not,gt_iff_lt,ge_iff_le,Int.not_lt,Int.not_le] at *);omega
  have hall: ∀s∈ls,s.2.2.1.2.length<=10:=fun y hy=>by
    obtain ⟨j,hj,rfl⟩:=List.mem_iff_getElem.1 hy
    have h1:=hal j (by omega);have h2:=gx_some (xs:=ls) hj;rw [List.getElem?_eq_getElem hj] at h2
    rw [Option.some.inj h2];exact h1
  exact ⟨(),trivial,congrArg Value.bool (by rw [fewB_end hall];exact decide_eq_decide.2 (by omega)),rfl,trivial⟩
abbrev pair_New2_raw_Q  (zv:Value) (zs0:Slot) (zs1:Slot) (zs2:Slot) (zs3:Slot) (zs4:Slot) (zs5:Slot) (zs6:Slot) (zs7:Slot) (zs8:Slot):Prop:= ∃zx:PA,(True)/\zv=pp zx.bp 0/\zs0=bk zx.bj #[.slice none 0 0] 63/\zs1=bk zx.bp #[pp zx.bj 0,pp zx.ba 0,pp zx.bb 0,pp zx.bn 0] 70/\zs2=(mS Tryz.mk107 zx.bn zx.bj ([]))/\zs3=bk zx.ba #[pp zx.u0 0,pp zx.v0 0] 104/\zs4=(mS Tryz.mk138 zx.u0 zx.bj ([]))/\zs5=(mS Tryz.mk143 zx.v0 zx.bj ([]))/\zs6=bk zx.bb #[pp zx.u1 0,pp zx.v1 0] 104/\zs7=(mS Tryz.mk138 zx.u1 zx.bj ([]))/\zs8=(mS Tryz.mk143 zx.v1 zx.bj ([]))/\True
set_option maxRecDepth 100000 in
theorem pair_New2_raw_vc :codeW Tryz.prog 14 none 2000 none (bodyOf Tryz.f7) (.reg [S0] (.reg [S0, .sem [.nw 20],S0] (.reg [S0,S0, .callw [] [23,24,25] book_New_C,S0, .callw [] [26,27,28] book_New_C,S0,S0, .callw [] [22] stage_New107_C,S0, .sem [.nw 21],S0] (.done))))
    (init #[] []) (finW Tryz.prog Tryz.f7 [] [20,21,22,23,24,25,26,27,28] (X:=PA) (fun zx=>pp zx.bp 0) (fun zx=> [bk zx.bj #[.slice none 0 0] 63,bk zx.bp #[pp zx.bj 0,pp zx.ba 0,pp zx.bb 0,pp zx.bn 0] 70,(mS Tryz.mk107 zx.bn zx.bj ([])),bk zx.ba #[pp zx.u0 0,pp zx.v0 0] 104,(mS Tryz.mk138 zx.u0 zx.bj ([])),(mS Tryz.mk143 zx.v0 zx.bj ([])),bk zx.bb #[pp zx.u1 0,pp zx.v1 0] 104,(mS Tryz.mk138 zx.u1 zx.bj ([])),(mS Tryz.mk143 zx.v1 zx.bj ([]))]) (fun _=>True))=
    (∀b1:Nat,book_New_K b1 (fun x2=>book_New_K b1 (fun x3=>callQ Tryz.prog 20 #[pp b1 0, .func (.func 21) #[] #[]] [] Nat (fun zx=>pp zx 0) (fun zx=> [(mS Tryz.mk107 zx b1 ([]))]) (fun zx=>True) (fun x4=> ∀b5:Nat,pair_New2_raw_Q  (pp b5 0) (bk b1 #[.slice none 0 0] 63) (bk b5 #[pp b1 0,pp x2.1 0,pp x3.1 0,pp x4 0] 70) (mS Tryz.mk107 x4 b1 ([])) (bk x2.1 #[pp x2.2.1 0,pp x2.2.2 0] 104) (mS Tryz.mk138 x2.2.1 b1 ([])) (mS Tryz.mk143 x2.2.2 b1 ([])) (bk x3.1 #[pp x3.2.1 0,pp x3.2.2 0] 104) (mS Tryz.mk138 x3.2.1 b1 ([])) (mS Tryz.mk143 x3.2.2 b1 ([])))))):=by kernel_rfl
set_option maxRecDepth 100000 in
theorem pair_New2_raw  :CallT Tryz.prog 7 #[] [] PA (fun zx=>pp zx.bp 0) (fun zx=> [bk zx.bj #[.slice none 0 0] 63,bk zx.bp #[pp zx.bj 0,pp zx.ba 0,pp zx.bb 0,pp zx.bn 0] 70,(mS Tryz.mk107 zx.bn zx.bj ([])),bk zx.ba #[pp zx.u0 0,pp zx.v0 0] 104,(mS Tryz.mk138 zx.u0 zx.bj ([])),(mS Tryz.mk143 zx.v0 zx.bj ([])),bk zx.bb #[pp zx.u1 0,pp zx.v1 0] 104,(mS Tryz.mk138 zx.u1 zx.bj ([])),(mS Tryz.mk143 zx.v1 zx.bj ([]))]) (fun _=>True):=by
  refine call_of (c:=bodyOf Tryz.f7) (n:=14) (fn:=Tryz.f7) Tryz.mixed Tryz.func7 (by kernel_rfl) (by kernel_rfl) (by kernel_rfl) 2000 _ [] [20,21,22,23,24,25,26,27,28] rfl rfl (Eq.mpr (pair_New2_raw_vc) ?_)
  intro b1
  exact book_New_m b1 (fun x2 h1=>book_New_m b1 (fun x3 h2=>callQ_mk (stage_New107 b1) (⟨0,trivial⟩) fun x4 h3=>fun b5=>⟨⟨b5,b1,x2.1,x3.1,x4,x2.2.1,x2.2.2,x3.2.1,x3.2.2⟩,trivial,rfl,rfl,rfl,rfl,rfl,rfl,rfl,rfl,rfl,rfl,trivial⟩))
noncomputable def pair_New2_C:List Value->List Slot->Ctr:=fun vs hs=>⟨PA,fun zx=>pp zx.bp 0,fun zx=> [(jS Tryz.jk zx.bj ([])),bk zx.bp #[pp zx.bj 0,pp zx.ba 0,pp zx.bb 0,pp zx.bn 0] 70,(mS Tryz.mk107 zx.bn zx.bj ([])),bk zx.ba #[pp zx.u0 0,pp zx.v0 0] 104,(mS Tryz.mk138 zx.u0 zx.bj ([])),(mS Tryz.mk143 zx.v0 zx.bj ([])),bk zx.bb #[pp zx.u1 0,pp zx.v1 0] 104,(mS Tryz.mk138 zx.u1 zx.bj ([])),(mS Tryz.mk143 zx.v1 zx.bj ([]))],fun zx=>True⟩
theorem pair_New2  :CallT Tryz.prog 7 #[] [] PA (fun zx=> .pointer (some ⟨zx.bp,0,none⟩)) (fun zx=> [(jS Tryz.jk zx.bj ([])), .blk zx.bp (.cells #[.pointer (some ⟨zx.bj,0,none⟩), .pointer (some ⟨zx.ba,0,none⟩), .pointer (some ⟨zx.bb,0,none⟩), .pointer (some ⟨zx.bn,0,none⟩)] 70 (0,0)),(mS Tryz.mk107 zx.bn zx.bj ([])), .blk zx.ba (.cells #[.pointer (some ⟨zx.u0,0,none⟩), .pointer (some ⟨zx.v0,0,none⟩)] 104 (0,0)),(mS Tryz.mk138 zx.u0 zx.bj ([])),(mS Tryz.mk143 zx.v0 zx.bj ([])), .blk zx.bb (.cells #[.pointer (some ⟨zx.u1,0,none⟩), .pointer (some ⟨zx.v1,0,none⟩)] 104 (0,0)),(mS Tryz.mk138 zx.u1 zx.bj ([])),(mS Tryz.mk143 zx.v1 zx.bj ([]))]) (fun zx=>(True)):=pair_New2_raw.exists fun x _=>⟨x,trivial,rfl,Imp.head (a:= [.blk x.bj (.cells #[.slice none 0 0] 63 (0,0))]) (b:= [jS Tryz.jk x.bj []]) _ (jS_empty (K:=Tryz.jk))⟩
noncomputable def pair_Nonce_C:List Value->List Slot->Ctr:=fun vs hs=>⟨Int,fun zx=>uu zx,fun _=>hs,fun zx=>zx=nz (skv (sarg hs 1)) (ci (varg vs 2))⟩
abbrev pair_Nonce_Q (bp bj ba bb bn:Nat) (m:KV) (k:Int) (zv:Value) (zs0:Slot) (zs1:Slot):Prop:= ∃zx:Int,(zx=nz m k)/\zv=uu zx/\zs0=bk bp #[pp bj 0,pp ba 0,pp bb 0,pp bn 0] 70/\zs1=(mS Tryz.mk107 bn bj m)/\True
abbrev pair_Nonce_A (bp bj ba bb bn:Nat) (m:KV) (k:Int) (zF:SF Int):Prop:=zF #[pp bp 0, .int .u8 k] [bk bp #[pp bj 0,pp ba 0,pp bb 0,pp bn 0] 70,(mS Tryz.mk107 bn bj m)] (fun zx=>uu zx) (fun zx=> [bk bp #[pp bj 0,pp ba 0,pp bb 0,pp bn 0] 70,(mS Tryz.mk107 bn bj m)]) (fun zx=>(zx=nz m k))
set_option maxRecDepth 100000 in
theorem pair_Nonce_vc (bp bj ba bb bn:Nat) (m:KV) (k:Int):pair_Nonce_A bp bj ba bb bn m k (fun za zh zv zu zp=>codeW Tryz.prog 17 none 2000 none (bodyOf Tryz.f9) (.reg [S0] (.reg [S0,S0,S0, .sem [.rd 0],S0, .callr [1] stage_Get107_C,S0,S0,S0,S0,S0] (.reg [S0,S0] (.done))))
    (init za zh) (finW Tryz.prog Tryz.f9 [] [0,1] (X:=Int) zv zu zp))=
    (rdQ 1 bp (callQr Tryz.prog 27 #[pp bn 0, .int .u8 k] [(mS Tryz.mk107 bn bj m)] (Int×Bool) (fun zx=> .tuple #[uu zx.1, .bool zx.2]) (fun zx=>zx.1=ci ((mget m (Value.int .u8 k)).getD (uu 0))/\zx.2=(mget m (Value.int .u8 k)).isSome) (fun x1=>pair_Nonce_Q bp bj ba bb bn m k (uu x1.1) (bk bp #[pp bj 0,pp ba 0,pp bb 0,pp bn 0] 70) (mS Tryz.mk107 bn bj m)))):=by kernel_rfl
set_option maxRecDepth 100000 in
theorem pair_Nonce (bp bj ba bb bn:Nat) (m:KV) (k:Int) :pair_Nonce_A bp bj ba bb bn m k (fun za zh zv zu zp=>CallT Tryz.prog 9 za zh Int zv zu zp):=by
  refine call_of (c:=bodyOf Tryz.f9) (n:=17) (fn:=Tryz.f9) Tryz.mixed Tryz.func9 (by kernel_rfl) (by kernel_rfl) (by kernel_rfl) 2000 _ [] [0,1] rfl rfl (Eq.mpr (pair_Nonce_vc bp bj ba bb bn m k) ?_)
  refine rdQ_mk 1 _ (callQr_mk (stage_Get107 bn bj m k) (⟨(_,_),rfl,rfl⟩) fun x1 h1=> ?_)
  have hg:=h1
  exact ⟨_,hg.1,rfl,rfl,rfl,trivial⟩
abbrev pair_Nonce_K (bp bj ba bb bn:Nat) (m:KV) (k:Int) (KK:Int->Prop):Prop:=pair_Nonce_A bp bj ba bb bn m k (fun za zh zv zu zp=>callQr Tryz.prog 9 za zh Int zv zp KK)
theorem pair_Nonce_m (bp bj ba bb bn:Nat) (m:KV) (k:Int) {KK:Int->Prop} (kont: ∀zx:Int,(zx=nz m k)->KK zx) :pair_Nonce_K bp bj ba bb bn m k KK:=callQr_mk (pair_Nonce bp bj ba bb bn m k) (⟨_,rfl⟩) fun zx hz=>by
  exact kont zx hz
noncomputable def pair_Book0_C:List Value->List Slot->Ctr:=fun vs hs=>⟨Unit,fun _=> .pointer (some ⟨(vblk (scell (sarg hs 0) 1)),0,none⟩),fun _=>hs,fun _=>True⟩
abbrev pair_Book0_Q (bp bj ba bb bn:Nat) (zv:Value) (zs0:Slot):Prop:= ∃_:Unit,(True)/\zv=pp ba 0/\zs0=bk bp #[pp bj 0,pp ba 0,pp bb 0,pp bn 0] 70/\True
abbrev pair_Book0_A (bp bj ba bb bn:Nat) (zF:SF Unit):Prop:=zF #[pp bp 0, .int .u8 0] [bk bp #[pp bj 0,pp ba 0,pp bb 0,pp bn 0] 70] (fun _=>pp ba 0) (fun _=> [bk bp #[pp bj 0,pp ba 0,pp bb 0,pp bn 0] 70]) (fun _=>True)
set_option maxRecDepth 100000 in
theorem pair_Book0_vc (bp bj ba bb bn:Nat):pair_Book0_A bp bj ba bb bn (fun za zh zv zu zp=>codeW Tryz.prog 14 none 2000 none (bodyOf Tryz.f16) (.reg [S0] (.reg [S0,S0,S0] (.condF (.reg [S0,S0,S0,S0,S0, .sem [.rd 0],S0] (.done)))))
    (init za zh) (finW Tryz.prog Tryz.f16 [] [0] (X:=Unit) zv zu zp))=
    ((false=false)/\rdQ 1 bp (pair_Book0_Q bp bj ba bb bn (pp ba 0) (bk bp #[pp bj 0,pp ba 0,pp bb 0,pp bn 0] 70))):=by kernel_rfl
set_option maxRecDepth 100000 in
theorem pair_Book0 (bp bj ba bb bn:Nat) :pair_Book0_A bp bj ba bb bn (fun za zh zv zu zp=>CallT Tryz.prog 16 za zh Unit zv zu zp):=by
  refine call_of (c:=bodyOf Tryz.f16) (n:=14) (fn:=Tryz.f16) Tryz.mixed Tryz.func16 (by kernel_rfl) (by kernel_rfl) (by kernel_rfl) 2000 _ [] [0] rfl rfl (Eq.mpr (pair_Book0_vc bp bj ba bb bn) ?_)
  exact ⟨rfl,rdQ_mk 1 _ ⟨(),trivial,rfl,rfl,trivial⟩⟩
abbrev pair_Book0_K (bp bj ba bb bn:Nat) (KK:Unit->Prop):Prop:=pair_Book0_A bp bj ba bb bn (fun za zh zv zu zp=>callQr Tryz.prog 16 za zh Unit zv zp KK)
theorem pair_Book0_m (bp bj ba bb bn:Nat) {KK:Unit->Prop} (kont:KK ()) :pair_Book0_K bp bj ba bb bn KK:=callQr_mk (pair_Book0 bp bj ba bb bn) (⟨(),trivial⟩) fun _ _=>kont
noncomputable def pair_Try_1_C:List Value->List Slot->Ctr:=fun vs hs=>⟨KV,fun zx=> .tuple #[],fun zx=> [.blk (vblk (varg vs 1)) (.cells #[.int .i64 0] 41 (0,0)), .blk (vblk (varg vs 2)) (.cells #[.pointer (some ⟨(vblk (scell (sarg hs 1) 0)),0,none⟩)] 25 (0,0)), .blk (vblk (varg vs 3)) (.cells #[.int .i64 (ci (scell (sarg hs 2) 0))] 3 (0,0)), .blk (vblk (varg vs 4)) (.cells #[.int .u8 (ci (scell (sarg hs 3) 0))] 5 (0,0)), .blk (vblk (varg vs 5)) (.cells #[uu (ci (scell (sarg hs 4) 0))] 27 (0,0)), .blk (vblk (scell (sarg hs 1) 0)) (.cells #[.pointer (some ⟨(vblk (scell (sarg hs 5) 0)),0,none⟩), .pointer (some ⟨(vblk (scell (sarg hs 5) 1)),0,none⟩), .pointer (some ⟨(vblk (scell (sarg hs 5) 2)),0,none⟩), .pointer (some ⟨(vblk (scell (sarg hs 5) 3)),0,none⟩)] 70 (0,0)),(mS Tryz.mk107 (vblk (scell (sarg hs 5) 3)) (vblk (scell (sarg hs 5) 0)) zx),(jS Tryz.jk (vblk (scell (sarg hs 5) 0)) ([]))],fun zx=>zx=mset (skv (sarg hs 6)) (.int .u8 (ci (scell (sarg hs 3) 0))) (uu (IntKind.u64.wrap ((ci (scell (sarg hs 4) 0))+1)))⟩
abbrev pair_Try_1_Q (c0 c1 c2 c3 c4 bp bj ba bb bn:Nat) (mk k n:Int) (m:KV) (L:List Ent) (zv:Value) (zs0:Slot) (zs1:Slot) (zs2:Slot) (zs3:Slot) (zs4:Slot) (zs5:Slot) (zs6:Slot) (zs7:Slot):Prop:= ∃zx:KV,(zx=mset m (.int .u8 k) (uu (IntKind.u64.wrap (n+1))))/\zv= .tuple #[]/\zs0=bk c0 #[.int .i64 0] 41/\zs1=bk c1 #[pp bp 0] 25/\zs2=bk c2 #[.int .i64 mk] 3/\zs3=bk c3 #[.int .u8 k] 5/\zs4=bk c4 #[uu n] 27/\zs5=bk bp #[pp bj 0,pp ba 0,pp bb 0,pp bn 0] 70/\zs6=(mS Tryz.mk107 bn bj zx)/\zs7=(jS Tryz.jk bj ([]))/\True
set_option maxRecDepth 100000 in
theorem pair_Try_1_vc (c0 c1 c2 c3 c4 bp bj ba bb bn:Nat) (mk k n:Int) (m:KV) (L:List Ent):codeW Tryz.prog 26 none 2000 none (bodyOf Tryz.f23) (.reg [.sem [.rd 0],S0] (.condF (.reg [.sem [.rd 1],S0,S0, .sem [.rd 5], .sem [.rd 3], .sem [.rd 4],S0, .callw [6,7] [6,7] stage_Set107_C] (.reg [.sem [.rd 1],S0,S0, .sem [.rd 5], .callw [7] [7] stage_Keep_C] (.done)))))
    (init #[pp c0 0,pp c1 0,pp c2 0,pp c3 0,pp c4 0] [bk c0 #[.int .i64 0] 41,bk c1 #[pp bp 0] 25,bk c2 #[.int .i64 mk] 3,bk c3 #[.int .u8 k] 5,bk c4 #[uu n] 27,bk bp #[pp bj 0,pp ba 0,pp bb 0,pp bn 0] 70,(mS Tryz.mk107 bn bj m),(jS Tryz.jk bj L)]) (finW Tryz.prog Tryz.f23 [] [0,1,2,3,4,5,6,7] (X:=KV) (fun zx=> .tuple #[]) (fun zx=> [bk c0 #[.int .i64 0] 41,bk c1 #[pp bp 0] 25,bk c2 #[.int .i64 mk] 3,bk c3 #[.int .u8 k] 5,bk c4 #[uu n] 27,bk bp #[pp bj 0,pp ba 0,pp bb 0,pp bn 0] 70,(mS Tryz.mk107 bn bj zx),(jS Tryz.jk bj ([]))]) (fun zx=>(zx=mset m (.int .u8 k) (uu (IntKind.u64.wrap (n+1))))))=
    (rdQ 1 c0 ((false=false)/\rdQ 1 c1 (rdQ 1 bp (rdQ 1 c3 (rdQ 1 c4 (callQ Tryz.prog 25 #[pp bn 0, .int .u8 k,uu (IntKind.u64.wrap (n+1))] [(mS Tryz.mk107 bn bj m),(jS Tryz.jk bj L)] (KV×List Ent) (fun zx=> .tuple #[]) (fun zx=> [(mS Tryz.mk107 bn bj zx.1),(jS Tryz.jk bj zx.2)]) (fun zx=>zx.1=mset m (Value.int .u8 k) (uu (IntKind.u64.wrap (n+1)))/\zx.2=L++ [(Tryz.ent107 bn m (Value.int .u8 k))]) (fun x1=>rdQ 1 c1 (rdQ 1 bp (callQ Tryz.prog 26 #[pp bj 0] [(jS Tryz.jk bj x1.2)] Unit (fun _=> .tuple #[]) (fun _=> [(jS Tryz.jk bj ([]))]) (fun _=>True) (fun _=>pair_Try_1_Q c0 c1 c2 c3 c4 bp bj ba bb bn mk k n m L (Value.tuple #[]) (bk c0 #[.int .i64 0] 41) (bk c1 #[pp bp 0] 25) (bk c2 #[.int .i64 mk] 3) (bk c3 #[.int .u8 k] 5) (bk c4 #[uu n] 27) (bk bp #[pp bj 0,pp ba 0,pp bb 0,pp bn 0] 70) (mS Tryz.mk107 bn bj x1.1) (jS Tryz.jk bj ([])))))))))))):=by kernel_rfl
set_option maxRecDepth 100000 in
theorem pair_Try_1 (c0 c1 c2 c3 c4 bp bj ba bb bn:Nat) (mk k n:Int) (m:KV) (L:List Ent) (hl:L.length<=1000000):CallD Tryz.prog 23 #[pp c0 0,pp c1 0,pp c2 0,pp c3 0,pp c4 0] [bk c0 #[.int .i64 0] 41,bk c1 #[pp bp 0] 25,bk c2 #[.int .i64 mk] 3,bk c3 #[.int .u8 k] 5,bk c4 #[uu n] 27,bk bp #[pp bj 0,pp ba 0,pp bb 0,pp bn 0] 70,(mS Tryz.mk107 bn bj m),(jS Tryz.jk bj L)] KV (fun zx=> [bk c0 #[.int .i64 0] 41,bk c1 #[pp bp 0] 25,bk c2 #[.int .i64 mk] 3,bk c3 #[.int .u8 k] 5,bk c4 #[uu n] 27,bk bp #[pp bj 0,pp ba 0,pp bb 0,pp bn 0] 70,(mS Tryz.mk107 bn bj zx),(jS Tryz.jk bj ([]))]) (fun zx=>(zx=mset m (.int .u8 k) (uu (IntKind.u64.wrap (n+1))))):=by
  refine callD_of (val:=(fun zx=> .tuple #[])) (c:=bodyOf Tryz.f23) (n:=26) (fn:=Tryz.f23) Tryz.mixed Tryz.func23 (by kernel_rfl) (by kernel_rfl) (by kernel_rfl) 2000 _ [] [0,1,2,3,4,5,6,7] rfl rfl (Eq.mpr (pair_Try_1_vc c0 c1 c2 c3 c4 bp bj ba bb bn mk k n m L) ?_)
  refine rdQ_mk 1 _ ⟨rfl,rdQ_mk 1 _ (rdQ_mk 1 _ (rdQ_mk 1 _ (rdQ_mk 1 _ (callQ_mk (stage_Set107 bn bj m L k (IntKind.u64.wrap (n+1)) (wf_wrapu _) (by omega)) (⟨(_,_),rfl,rfl⟩) fun x1 h1=> ?_))))⟩
  have hs:=h1
  exact rdQ_mk 1 _ (rdQ_mk 1 _ (callQ_mk (stage_Keep bj x1.2) (⟨(),trivial⟩) fun _ _=>⟨_,hs.1,rfl,rfl,rfl,rfl,rfl,rfl,rfl,rfl,rfl,trivial⟩))
noncomputable def deed_18_C:List Value->List Slot->Ctr:=fun vs hs=>⟨Unit,fun _=> .int .i64 0,fun _=>hs,fun _=>True⟩
abbrev deed_18_Q  (zv:Value) :Prop:= ∃_:Unit,(True)/\zv= .int .i64 0/\True
abbrev deed_18_A  (zF:SF Unit):Prop:=zF #[] [] (fun _=> .int .i64 0) (fun _=> []) (fun _=>True)
set_option maxRecDepth 100000 in
theorem deed_18_vc :deed_18_A  (fun za zh zv zu zp=>codeW Tryz.prog 1 none 2000 none (bodyOf Tryz.f18) (.reg [S0] (.reg [S0] (.done)))
    (init za zh) (finW Tryz.prog Tryz.f18 [] [] (X:=Unit) zv zu zp))=
    (deed_18_Q  (Value.int .i64 0)):=by kernel_rfl
set_option maxRecDepth 100000 in
theorem deed_18  :deed_18_A  (fun za zh zv zu zp=>CallT Tryz.prog 18 za zh Unit zv zu zp):=by
  refine call_of (c:=bodyOf Tryz.f18) (n:=1) (fn:=Tryz.f18) Tryz.mixed Tryz.func18 (by kernel_rfl) (by kernel_rfl) (by kernel_rfl) 2000 _ [] [] rfl rfl (Eq.mpr (deed_18_vc) ?_)
  exact ⟨(),trivial,rfl,trivial⟩
abbrev deed_18_K  (KK:Unit->Prop):Prop:=deed_18_A  (fun za zh zv zu zp=>callQr Tryz.prog 18 za zh Unit zv zp KK)
theorem deed_18_m  {KK:Unit->Prop} (kont:KK ()) :deed_18_K  KK:=callQr_mk (deed_18) (⟨(),trivial⟩) fun _ _=>kont
noncomputable def pair_Try_18_C:List Value->List Slot->Ctr:=fun vs hs=>⟨Int×KV,fun zx=> .int .i64 zx.1,fun zx=> [.blk (vblk (varg vs 1)) (.cells #[.pointer (some ⟨(vblk (scell (sarg hs 0) 0)),0,none⟩), .pointer (some ⟨(vblk (scell (sarg hs 0) 1)),0,none⟩), .pointer (some ⟨(vblk (scell (sarg hs 0) 2)),0,none⟩), .pointer (some ⟨(vblk (scell (sarg hs 0) 3)),0,none⟩)] 70 (0,0)),(mS Tryz.mk107 (vblk (scell (sarg hs 0) 3)) (vblk (scell (sarg hs 0) 0)) zx.2),(jS Tryz.jk (vblk (scell (sarg hs 0) 0)) ([]))],fun zx=>zx=tryOk (skv (sarg hs 1)) (ci (varg vs 2)) (ci (varg vs 3))⟩
abbrev pair_Try_18_Q (bp bj ba bb bn:Nat) (k n:Int) (m:KV) (zv:Value) (zs0:Slot) (zs1:Slot) (zs2:Slot):Prop:= ∃zx:Int×KV,(zx=tryOk m k n)/\zv= .int .i64 zx.1/\zs0=bk bp #[pp bj 0,pp ba 0,pp bb 0,pp bn 0] 70/\zs1=(mS Tryz.mk107 bn bj zx.2)/\zs2=(jS Tryz.jk bj ([]))/\True
abbrev pair_Try_18_A (bp bj ba bb bn:Nat) (k n:Int) (m:KV) (zF:SF (Int×KV)):Prop:=zF #[pp bp 0, .int .u8 k,uu n, .func (.func 18) #[] #[]] [bk bp #[pp bj 0,pp ba 0,pp bb 0,pp bn 0] 70,(mS Tryz.mk107 bn bj m),(jS Tryz.jk bj ([]))] (fun zx=> .int .i64 zx.1) (fun zx=> [bk bp #[pp bj 0,pp ba 0,pp bb 0,pp bn 0] 70,(mS Tryz.mk107 bn bj zx.2),(jS Tryz.jk bj ([]))]) (fun zx=>(zx=tryOk m k n))
set_option maxRecDepth 100000 in
theorem pair_Try_18_vc (bp bj ba bb bn:Nat) (k n:Int) (m:KV):pair_Try_18_A bp bj ba bb bn k n m (fun za zh zv zu zp=>codeW Tryz.prog 27 none 2000 none (bodyOf Tryz.f8) (.reg [.sem [.nw 3], .sem [.nw 4], .sem [.nw 5], .sem [.nw 6]] (.reg [.sem [.rd 4],S0,S0] (.cond (.reg [.sem [.wr 6]] (.done)) (.reg [.sem [.rd 5], .sem [.rd 3], .sem [.rd 4], .callr [0,1] pair_Nonce_C,S0,S0] (.cond (.reg [.sem [.wr 6]] (.done)) (.reg [.sem [.rd 3],S0,S0, .sem [.rd 0], .callr [2] stage_Mark_C, .sem [.nw 7], .sem [.wr 7]] (.reg [S0, .dfr] (.reg [S0, .callr [] deed_18_C, .sem [.wr 6]] (.reg [.callw [6,3,7,4,5,0,1,2] [6,3,7,4,5,0,1,2] pair_Try_1_C] .done)))))))))
    (init za zh) (finD Tryz.prog Tryz.f8 [.rd 6] [0,1,2] (X:=Int×KV) zv zu zp))=
    (∀b1:Nat,∀b2:Nat,∀b3:Nat,∀b4:Nat,rdQ 1 b2 (((decide (k≥(16:Int)))=true->rdQ 1 b4 (rdQ 1 b4 (pair_Try_18_Q bp bj ba bb bn k n m (Value.int .i64 1) (bk bp #[pp bj 0,pp ba 0,pp bb 0,pp bn 0] 70) (mS Tryz.mk107 bn bj m) (jS Tryz.jk bj ([])))))/\((decide (k≥(16:Int)))=false->rdQ 1 b3 (rdQ 1 b1 (rdQ 1 b2 (pair_Nonce_K bp bj ba bb bn m k (fun x5=>((n !=x5)=true->rdQ 1 b4 (rdQ 1 b4 (pair_Try_18_Q bp bj ba bb bn k n m (Value.int .i64 9) (bk bp #[pp bj 0,pp ba 0,pp bb 0,pp bn 0] 70) (mS Tryz.mk107 bn bj m) (jS Tryz.jk bj ([])))))/\((n !=x5)=false->rdQ 1 b1 (rdQ 1 bp (callQr Tryz.prog 22 #[pp bj 0] [(jS Tryz.jk bj ([]))] Int (fun zx=> .int .i64 zx) (fun zx=>zx=(((([]):List Ent).length:Nat):Int)) (fun x6=> ∀b7:Nat,rdQ 1 b7 (deed_18_K  (fun _=>rdQ 1 b4 ((CallD Tryz.prog 23 #[pp b4 0,pp b1 0,pp b7 0,pp b2 0,pp b3 0] [bk b4 #[.int .i64 0] 41,bk b1 #[pp bp 0] 25,bk b7 #[.int .i64 x6] 3,bk b2 #[.int .u8 k] 5,bk b3 #[uu n] 27,bk bp #[pp bj 0,pp ba 0,pp bb 0,pp bn 0] 70,(mS Tryz.mk107 bn bj m),(jS Tryz.jk bj ([]))] KV (fun zx=> [bk b4 #[.int .i64 0] 41,bk b1 #[pp bp 0] 25,bk b7 #[.int .i64 x6] 3,bk b2 #[.int .u8 k] 5,bk b3 #[uu n] 27,bk bp #[pp bj 0,pp ba 0,pp bb 0,pp bn 0] 70,(mS Tryz.mk107 bn bj zx),(jS Tryz.jk bj ([]))]) (fun zx=>zx=mset m (.int .u8 k) (uu (IntKind.u64.wrap (n+1)))))/\ ∀x8:KV,(x8=mset m (.int .u8 k) (uu (IntKind.u64.wrap (n+1))))->rdQ 1 b4 (pair_Try_18_Q bp bj ba bb bn k n m (Value.int .i64 0) (bk bp #[pp bj 0,pp ba 0,pp bb 0,pp bn 0] 70) (mS Tryz.mk107 bn bj x8) (jS Tryz.jk bj ([]))))))))))))))))):=by kernel_rfl
set_option maxRecDepth 100000 in
theorem pair_Try_18 (bp bj ba bb bn:Nat) (k n:Int) (m:KV) :pair_Try_18_A bp bj ba bb bn k n m (fun za zh zv zu zp=>CallT Tryz.prog 8 za zh (Int×KV) zv zu zp):=by
  refine call_of_dfr (c:=bodyOf Tryz.f8) (n:=27) (fn:=Tryz.f8) Tryz.mixed Tryz.func8 (by kernel_rfl) (by kernel_rfl) (by kernel_rfl) 2000 _ [.rd 6] [0,1,2] rfl rfl (Eq.mpr (pair_Try_18_vc bp bj ba bb bn k n m) ?_)
  intro b1
  intro b2
  intro b3
  intro b4
  refine rdQ_mk 1 _ ⟨fun h1=> ?_,fun h1=> ?_⟩
  · refine rdQ_mk 1 _ (rdQ_mk 1 _ ?_)
    have hk:16<=k:=by (try simp (disch:=first | assumption | exact R4_zero | exact R4_one) only [rdx] at *);omega
    exact ⟨_,(tryOk_arg hk).symm,rfl,rfl,rfl,rfl,trivial⟩
  refine rdQ_mk 1 _ (rdQ_mk 1 _ (rdQ_mk 1 _ (pair_Nonce_m bp bj ba bb bn m k (fun x5 h2=> ?_))))
  have hz:=h2
  refine ⟨fun h3=> ?_,fun h3=> ?_⟩
  · refine rdQ_mk 1 _ (rdQ_mk 1 _ ?_)
    have hk: ¬16<=k:=by (try simp (disch:=first | assumption | exact R4_zero | exact R4_one) only [rdx] at *);omega
    have hn:n≠nz m k:=by rw [←hz];(try simp (disch:=first | assumption | exact R4_zero | exact R4_one) only [rdx] at *);omega
    exact ⟨_,(tryOk_nonce hk hn).symm,rfl,rfl,rfl,rfl,trivial⟩
  refine rdQ_mk 1 _ (rdQ_mk 1 _ (callQr_mk (stage_Mark bj ([])) (⟨_,rfl⟩) fun x6 h4=>fun b7=>rdQ_mk 1 _ (deed_18_m  (rdQ_mk 1 _ ⟨pair_Try_1 b4 b1 b7 b2 b3 bp bj ba bb bn x6 k n m ([]) (Nat.zero_le _),fun x8 h5=>rdQ_mk 1 _ ?_⟩))))
  have hk: ¬16<=k:=by (try simp (disch:=first | assumption | exact R4_zero | exact R4_one) only [rdx] at *);omega
  have hn:n=nz m k:=by rw [←hz];(try simp (disch:=first | assumption | exact R4_zero | exact R4_one) only [rdx] at *);omega
  exact ⟨_,(tryOk_ok hk hn).symm,rfl,rfl,by first | (subst_vars;rfl) | simp_all,rfl,trivial⟩
abbrev pair_Try_18_K (bp bj ba bb bn:Nat) (k n:Int) (m:KV) (KK:(Int×KV)->Prop):Prop:=pair_Try_18_A bp bj ba bb bn k n m (fun za zh zv zu zp=>callQ Tryz.prog 8 za zh (Int×KV) zv zu zp KK)
theorem pair_Try_18_m (bp bj ba bb bn:Nat) (k n:Int) (m:KV) {KK:(Int×KV)->Prop} (kont: ∀zx:Int×KV,(zx=tryOk m k n)->KK zx) :pair_Try_18_K bp bj ba bb bn k n m KK:=callQ_mk (pair_Try_18 bp bj ba bb bn k n m) (⟨_,rfl⟩) fun zx hz=>by
  exact kont zx hz
noncomputable def law14_lives_C:List Value->List Slot->Ctr:=fun vs hs=>⟨Unit,fun _=> .bool true,fun _=>hs,fun _=>True⟩
abbrev law14_lives_Q  (zv:Value) :Prop:= ∃_:Unit,(True)/\zv= .bool true/\True
abbrev law14_lives_A  (zF:SF Unit):Prop:=zF #[] [] (fun _=> .bool true) (fun _=> []) (fun _=>True)
set_option maxRecDepth 100000 in
theorem law14_lives_vc :law14_lives_A  (fun za zh zv zu zp=>codeW Tryz.prog 32 none 2000 none (bodyOf Tryz.f5) (.reg [S0] (.reg [.callw [] [0,1,2,3,4,5,6,7,8] pair_New2_C,S0] (.reg [S0,S0,S0,S0, .callr [1] pair_Book0_C,S0,S0] (.condF (.reg [S0] (.reg [S0,S0, .callw [1,2,0] [1,2,0] pair_Try_18_C, .gen [] (Sx.one (.bool true)),S0,S0,S0, .callw [1,2,0] [1,2,0] pair_Try_18_C, .gen [] (Sx.one (.bool true)),S0,S0,S0,S0, .callw [1,2,0] [1,2,0] pair_Try_18_C, .gen [] (Sx.one (.bool true)),S0,S0,S0, .callr [1,2] pair_Nonce_C, .gen [] (Sx.one (.bool true)),S0,S0] (.done)))))))
    (init za zh) (finW Tryz.prog Tryz.f5 [] [] (X:=Unit) zv zu zp))=
    (callQ Tryz.prog 7 #[] [] PA (fun zx=>pp zx.bp 0) (fun zx=> [(jS Tryz.jk zx.bj ([])),bk zx.bp #[pp zx.bj 0,pp zx.ba 0,pp zx.bb 0,pp zx.bn 0] 70,(mS Tryz.mk107 zx.bn zx.bj ([])),bk zx.ba #[pp zx.u0 0,pp zx.v0 0] 104,(mS Tryz.mk138 zx.u0 zx.bj ([])),(mS Tryz.mk143 zx.v0 zx.bj ([])),bk zx.bb #[pp zx.u1 0,pp zx.v1 0] 104,(mS Tryz.mk138 zx.u1 zx.bj ([])),(mS Tryz.mk143 zx.v1 zx.bj ([]))]) (fun zx=>True) (fun x1=>false=false/\false=false/\pair_Book0_K x1.bp x1.bj x1.ba x1.bb x1.bn (fun _=>false=false/\(false=false)/\pair_Try_18_K x1.bp x1.bj x1.ba x1.bb x1.bn (0:Int) (0:Int) ([]) (fun x2=>(∃_:Unit,True/\Value.bool (x2.1==(0:Int))= .bool true)/\ ∀_:Unit,(True)->true=true/\true=true/\true=true/\pair_Try_18_K x1.bp x1.bj x1.ba x1.bb x1.bn (0:Int) (0:Int) x2.2 (fun x3=>true=true/\(∃_:Unit,True/\Value.bool (x3.1==(9:Int))= .bool true)/\ ∀_:Unit,(True)->true=true/\true=true/\true=true/\pair_Try_18_K x1.bp x1.bj x1.ba x1.bb x1.bn (0:Int) (1:Int) x3.2 (fun x4=>true=true/\(∃_:Unit,True/\Value.bool (x4.1==(0:Int))= .bool true)/\ ∀_:Unit,(True)->true=true/\true=true/\pair_Nonce_K x1.bp x1.bj x1.ba x1.bb x1.bn x4.2 (0:Int) (fun x5=>true=true/\(∃_:Unit,True/\Value.bool (x5==(2:Int))= .bool true)/\ ∀_:Unit,(True)->law14_lives_Q  (Value.bool true)))))))):=by kernel_rfl
set_option maxRecDepth 100000 in
theorem law14_lives  :law14_lives_A  (fun za zh zv zu zp=>CallT Tryz.prog 5 za zh Unit zv zu zp):=by
  refine call_of (c:=bodyOf Tryz.f5) (n:=32) (fn:=Tryz.f5) Tryz.mixed Tryz.func5 (by kernel_rfl) (by kernel_rfl) (by kernel_rfl) 2000 _ [] [] rfl rfl (Eq.mpr (law14_lives_vc) ?_)
  refine callQ_mk (pair_New2) (⟨⟨0,0,0,0,0,0,0,0,0⟩,trivial⟩) fun x1 h1=>⟨rfl,rfl,pair_Book0_m x1.bp x1.bj x1.ba x1.bb x1.bn ⟨rfl,⟨rfl,pair_Try_18_m x1.bp x1.bj x1.ba x1.bb x1.bn (0:Int) (0:Int) ([]) (fun x2 h2=> ?_)⟩⟩⟩
  have h1:=h2
  rw [tryOk_ok (by decide) (nz_nil 0).symm] at h1
  refine ⟨⟨(),trivial,congrArg Value.bool (by rw [h1];rfl)⟩,fun _=>fun _=>⟨rfl,rfl,rfl,pair_Try_18_m x1.bp x1.bj x1.ba x1.bb x1.bn (0:Int) (0:Int) x2.2 (fun x3 h3=> ?_)⟩⟩
  have h2:=h3
  rw [h1] at h2
  replace h2:=h2.trans (tryOk_nonce (by decide) (by rw [nz_set,if_pos rfl];decide))
  refine ⟨rfl,⟨(),trivial,congrArg Value.bool (by rw [h2];rfl)⟩,fun _=>fun _=>⟨rfl,rfl,rfl,pair_Try_18_m x1.bp x1.bj x1.ba x1.bb x1.bn (0:Int) (1:Int) x3.2 (fun x4 h4=> ?_)⟩⟩
  have h3:=h4
  rw [h2] at h3
  replace h3:=h3.trans (tryOk_ok (by decide) (by rw [nz_set,if_pos rfl];decide))
  refine ⟨rfl,⟨(),trivial,congrArg Value.bool (by rw [h3];rfl)⟩,fun _=>fun _=>⟨rfl,rfl,pair_Nonce_m x1.bp x1.bj x1.ba x1.bb x1.bn x4.2 (0:Int) (fun x5 h5=> ?_)⟩⟩
  have h4:=h5
  rw [h3,nz_set,if_pos rfl] at h4
  exact ⟨rfl,⟨(),trivial,congrArg Value.bool (by rw [h4];decide)⟩,fun _=>fun _=>⟨(),trivial,rfl,trivial⟩⟩
abbrev law14_lives_K  (KK:Unit->Prop):Prop:=law14_lives_A  (fun za zh zv zu zp=>callQr Tryz.prog 5 za zh Unit zv zp KK)
theorem law14_lives_m  {KK:Unit->Prop} (kont:KK ()) :law14_lives_K  KK:=callQr_mk (law14_lives) (⟨(),trivial⟩) fun _ _=>kont
noncomputable def Tryz.rfA24:Code:=((rfs (bodyOf Tryz.f24)).getD 0 (.skip, .skip)).1
noncomputable def Tryz.rfB24:Code:=((rfs (bodyOf Tryz.f24)).getD 0 (.skip, .skip)).2
abbrev slices_Backward_1_Q (l:Nat) (rec:Loop) (row:Rw) (m c:Nat) (T:Nat->List Slot) (zv:Value) (zs0:Slot) (zs1:Slot) (zs2:Slot):Prop:= ∃_:Unit,(True)/\zv= .tuple #[]/\zs0=(loopB l rec)/\zs1=(ss 1 row)/\zs2=(bunL (T 0))/\True
set_option maxRecDepth 100000 in
theorem slices_Backward_1_vc (l:Nat) (rec:Loop) (row:Rw) (m c:Nat) (T:Nat->List Slot):codeW Tryz.prog 19 none 2000 none (bodyOf Tryz.f76) (.reg [.sem [.rd 2], .eq (f_len), .gen [] (fun vs=>Sx.one (.int .i64 (ci (varg vs 0) - ci (varg vs 1))) vs),S0] (.inv Nat (fun zx=> [(0, .func (.yield l) #[] #[]),(1,pp c 0),(3, .int .i64 (((zx:Nat):Int) - 1))]) (fun zx=> [(0,(loopB l rec)),(1,(ss 1 row)),(2,bk c #[vdrop (sv row) m] 61),(3,(bunL (T zx)))]) (fun zx=>zx<=vlen (vdrop (sv row) m)) (fun zx=>zx) (fun x1=> .reg [S0,S0] (.cond (.reg [S0,S0, .sem [.rd 2],S0, .eq (fun _=> .pointer (some ⟨(vblk (sv row)),(m+Int.toNat (((x1:Nat):Int) - 1)),none⟩)), .specr [1] (fun _ hs=>⟨Unit,fun _=>((vals row).getD (m+Int.toNat (((x1:Nat):Int) - 1)) undef),fun _=>hs,fun _=>True⟩), .callw [0,3] [0,3] (fun _ _=>⟨Unit,fun _=> .bool true,fun _=> [(loopB l rec),(bunL (T (x1 - 1)))],fun _=>True⟩),S0] (.condF (.reg [S0, .gen [] (fun vs=>Sx.one (.int .i64 (ci (varg vs 0) - ci (varg vs 1))) vs),S0] (.done)))) (.done)))))
    (init #[.func (.yield l) #[] #[],pp c 0] [(loopB l rec),(ss 1 row),bk c #[vdrop (sv row) m] 61,(bunL (T (vlen (vdrop (sv row) m))))]) (finW Tryz.prog Tryz.f76 [] [0,1,3] (X:=Unit) (fun _=> .tuple #[]) (fun _=> [(loopB l rec),(ss 1 row),(bunL (T 0))]) (fun _=>True))=
    (rdQ 1 c ((PureRun Tryz.prog (vS (Builtin.len_ #[61] 3 #[vdrop (sv row) m])) (.int .i64 ((vlen (vdrop (sv row) m):Nat):Int)))/\(∃_:Unit,True/\Value.int .i64 (IntKind.i64.wrap (((vlen (vdrop (sv row) m):Nat):Int) - 1))= .int .i64 (((vlen (vdrop (sv row) m):Nat):Int) - 1))/\ ∀_:Unit,(True)->(∃zx:Nat,(zx<=vlen (vdrop (sv row) m))/\Value.func (.yield l) #[] #[]= .func (.yield l) #[] #[]/\pp c 0=pp c 0/\Value.int .i64 (((vlen (vdrop (sv row) m):Nat):Int) - 1)= .int .i64 (((zx:Nat):Int) - 1)/\(loopB l rec)=(loopB l rec)/\(ss 1 row)=(ss 1 row)/\bk c #[vdrop (sv row) m] 61=bk c #[vdrop (sv row) m] 61/\(bunL (T (vlen (vdrop (sv row) m))))=(bunL (T zx))/\True)/\ ∀x1:Nat,∀jx1:Nat->Value,(x1<=vlen (vdrop (sv row) m))->((decide ((((x1:Nat):Int) - 1)≥(0:Int)))=true->rdQ 1 c ((PureRun Tryz.prog (vS (Instr.indexAt 61 (vdrop (sv row) m) (.int .i64 (((x1:Nat):Int) - 1)))) (.pointer (some ⟨(vblk (sv row)),(m+Int.toNat (((x1:Nat):Int) - 1)),none⟩)))/\opQr Tryz.prog (vS (Instr.loadAt 1 (.pointer (some ⟨(vblk (sv row)),(m+Int.toNat (((x1:Nat):Int) - 1)),none⟩)))) [(ss 1 row)] Unit (fun _=>((vals row).getD (m+Int.toNat (((x1:Nat):Int) - 1)) undef)) (fun _=>True) (fun _=>rndQ Tryz.prog l #[.int .i64 (((x1:Nat):Int) - 1),((vals row).getD (m+Int.toNat (((x1:Nat):Int) - 1)) undef)] [(loopB l rec),(bunL (T x1))] Unit (fun _=> .bool true) (fun _=> [(loopB l rec),(bunL (T (x1 - 1)))]) (fun _=>True) (fun _=>(false=false)/\(∃_:Unit,True/\Value.int .i64 (IntKind.i64.wrap ((((x1:Nat):Int) - 1) - 1))= .int .i64 ((((x1:Nat):Int) - 1) - 1))/\ ∀_:Unit,(True)-> ∃zy:Nat,(zy<=vlen (vdrop (sv row) m))/\zy<x1/\Value.func (.yield l) #[] #[]= .func (.yield l) #[] #[]/\pp c 0=pp c 0/\Value.int .i64 ((((x1:Nat):Int) - 1) - 1)= .int .i64 (((zy:Nat):Int) - 1)/\(loopB l rec)=(loopB l rec)/\(ss 1 row)=(ss 1 row)/\bk c #[vdrop (sv row) m] 61=bk c #[vdrop (sv row) m] 61/\(bunL (T (x1 - 1)))=(bunL (T zy))/\True))))/\((decide ((((x1:Nat):Int) - 1)≥(0:Int)))=false->slices_Backward_1_Q l rec row m c T (Value.tuple #[]) (loopB l rec) (ss 1 row) (bunL (T x1))))):=by kernel_rfl
set_option maxRecDepth 100000 in
theorem slices_Backward_1 (l:Nat) (rec:Loop) (row:Rw) (m c:Nat) (T:Nat->List Slot) (hm:m<=(vals row).length) (hl:(vals row).length<=1073741824) (hT: ∀x,0<x->x<=vlen (vdrop (sv row) m)->RoundT Tryz.prog l #[.int .i64 (((x:Nat):Int) - 1),(vals row).getD (m+Int.toNat (((x:Nat):Int) - 1)) undef] [loopB l rec,bunL (T x)] Unit (fun _=> .bool true) (fun _=> [loopB l rec,bunL (T (x - 1))]) (fun _=>True)):CallT Tryz.prog 76 #[.func (.yield l) #[] #[],pp c 0] [(loopB l rec),(ss 1 row),bk c #[vdrop (sv row) m] 61,(bunL (T (vlen (vdrop (sv row) m))))] Unit (fun _=> .tuple #[]) (fun _=> [(loopB l rec),(ss 1 row),(bunL (T 0))]) (fun _=>True):=by
  refine call_of (c:=bodyOf Tryz.f76) (n:=19) (fn:=Tryz.f76) Tryz.mixed Tryz.func76 (by kernel_rfl) (by kernel_rfl) (by kernel_rfl) 2000 _ [] [0,1,3] rfl rfl (Eq.mpr (slices_Backward_1_vc l rec row m c T) ?_)
  have hv0:=vlen_drop row m
  refine rdQ_mk 1 _ ⟨xdlen Tryz.sl61 3 row m,⟨(),trivial,congrArg (Value.int .i64) (wrap_i64 _ (by first | omega | ((try simp only [decide_eq_true_eq,decide_eq_false_iff_not,gt_iff_lt,ge_iff_le,Int.not_lt,Int.not_le] at *);omega)) (by first | omega | ((try simp only [decide_eq_true_eq,decide_eq_false_iff_not,gt_iff_lt,ge_iff_le,Int.not_lt,Int.not_le] at *);omega)))⟩,fun _=>fun _=>⟨?_,fun x1 jx1 h1=> ?_⟩⟩
  · exact ⟨vlen (vdrop (sv row) m),Nat.le_refl _,rfl,rfl,rfl,rfl,rfl,rfl,rfl,trivial⟩
  have hv:=vlen_drop row m
  refine ⟨fun h2=> ?_,fun h2=> ?_⟩
  · refine rdQ_mk 1 _ ⟨xdidx Tryz.sl61 row m .i64 (((x1:Nat):Int) - 1) (by (try simp only [decide_eq_true_eq,decide_eq_false_iff_not,gt_iff_lt,ge_iff_le,Int.not_lt,Int.not_le] at *);omega) (by (try simp only [decide_eq_true_eq,decide_eq_false_iff_not,gt_iff_lt,ge_iff_le,Int.not_lt,Int.not_le] at *);omega),opQr_mk (xget row 1 (fun w=>by kernel_rfl) (m+Int.toNat (((x1:Nat):Int) - 1)) _ (getD_some (by (try simp only [decide_eq_true_eq,decide_eq_false_iff_not,gt_iff_lt,ge_iff_le,Int.not_lt,Int.not_le] at *);omega))) (⟨(),trivial⟩) fun _ _=>rndQ_mk (hT x1 (by (try simp only [decide_eq_true_eq,decide_eq_false_iff_not,gt_iff_lt,ge_iff_le,Int.not_lt,Int.not_le] at *);omega) h1) (⟨(),trivial⟩) fun _ _=>⟨rfl,⟨⟨(),trivial,congrArg (Value.int .i64) (wrap_i64 _ (by first | omega | ((try simp only [decide_eq_true_eq,decide_eq_false_iff_not,gt_iff_lt,ge_iff_le,Int.not_lt,Int.not_le] at *);omega)) (by first | omega | ((try simp only [decide_eq_true_eq,decide_eq_false_iff_not,gt_iff_lt,ge_iff_le,Int.not_lt,Int.not_le] at *);omega)))⟩,fun _=>fun _=> ?_⟩⟩⟩
    have hx0:0<x1:=by (try simp only [decide_eq_true_eq,decide_eq_false_iff_not,gt_iff_lt,ge_iff_le,Int.not_lt,Int.not_le] at *);omega
    exact ⟨x1 - 1,by omega,by omega,rfl,rfl,congrArg (Value.int .i64) (by omega),rfl,rfl,rfl,rfl,trivial⟩
  exact ⟨(),trivial,rfl,rfl,rfl,congrArg (fun k=>bunL (T k)) (by (try simp only [decide_eq_true_eq,decide_eq_false_iff_not,gt_iff_lt,ge_iff_le,Int.not_lt,Int.not_le] at *);omega),trivial⟩
noncomputable def slices_Backward_C:List Value->List Slot->Ctr:=fun vs hs=>⟨Nat,fun zx=> .func (.func 76) #[] #[pp zx 0],fun zx=> [bk zx #[(varg vs 1)] 61],fun zx=>True⟩
abbrev slices_Backward_Q (v:Value) (zv:Value) (zs0:Slot):Prop:= ∃zx:Nat,(True)/\zv= .func (.func 76) #[] #[pp zx 0]/\zs0=bk zx #[v] 61/\True
abbrev slices_Backward_A (v:Value) (zF:SF Nat):Prop:=zF #[v] [] (fun zx=> .func (.func 76) #[] #[pp zx 0]) (fun zx=> [bk zx #[v] 61]) (fun zx=>(True))
set_option maxRecDepth 100000 in
theorem slices_Backward_vc (v:Value):slices_Backward_A v (fun za zh zv zu zp=>codeW Tryz.prog 4 none 2000 none (bodyOf Tryz.f51) (.reg [.sem [.nw 20],S0] (.reg [S0,S0] (.done)))
    (init za zh) (finW Tryz.prog Tryz.f51 [] [20] (X:=Nat) zv zu zp))=
    (∀b1:Nat,slices_Backward_Q v (Value.func (.func 76) #[] #[pp b1 0]) (Slot.blk b1 (.cells ((v).cells) 61 (0,0)))):=by kernel_rfl
set_option maxRecDepth 100000 in
theorem slices_Backward (v:Value) (hv:v.cells= #[v]):slices_Backward_A v (fun za zh zv zu zp=>CallT Tryz.prog 51 za zh Nat zv zu zp):=by
  refine call_of (c:=bodyOf Tryz.f51) (n:=4) (fn:=Tryz.f51) Tryz.mixed Tryz.func51 (by kernel_rfl) (by kernel_rfl) (by kernel_rfl) 2000 _ [] [20] rfl rfl (Eq.mpr (slices_Backward_vc v) ?_)
  intro b1
  exact ⟨b1,trivial,rfl,congrArg (fun q=>Slot.blk b1 (.cells q 61 (0,0))) hv,trivial⟩
abbrev slices_Backward_K (v:Value) (KK:Nat->Prop):Prop:=slices_Backward_A v (fun za zh zv zu zp=>callQ Tryz.prog 51 za zh Nat zv zu zp KK)
theorem slices_Backward_m (v:Value) {KK:Nat->Prop} (kont: ∀zx:Nat,(True)->KK zx) (hv:v.cells= #[v]):slices_Backward_K v KK:=callQ_mk (slices_Backward v hv) (⟨0,trivial⟩) fun zx hz=>by
  exact kont zx hz
abbrev stage_Back_raw_Q (bj:Nat) (row:Rw) (mark:Int) (T:Nat->List Slot) (zv:Value) (zs0:Slot) (zs1:Slot) (zs2:Slot):Prop:= ∃_:Unit,(True)/\zv= .bool true/\zs0=bk bj #[(vtake (sv row) (Int.toNat mark))] 63/\zs1=(ss 1 row)/\zs2=(bunL (T 0))/\True
set_option maxRecDepth 100000 in
theorem stage_Back_raw_vc (bj:Nat) (row:Rw) (mark:Int) (T:Nat->List Slot):codeW Tryz.prog 38 none 2000 none (bodyOf Tryz.f24) (.reg [S0] (.reg [S0, .gen [] (Sx.one (.bool false)),S0,S0,S0,S0,S0, .sem [.rd 0], .eq (f_len), .gen [] (Sx.one (.bool false)),S0] (.condF (.reg [S0,S0,S0, .sem [.rd 0],S0, .eq (fun _=>vdrop (sv row) (Int.toNat mark)), .callw [] [3] slices_Backward_C] (.rf [24] [1,3,2] [50,1,2] (fun _ hs=>⟨Unit,fun _=>undef,fun _=> [(ss 1 row),(bunL (T 0))],fun _=>True⟩) (.reg [S0,S0,S0,S0, .sem [.rd 0],S0, .eq (f_take),S0,S0, .specw [0] [0] F_put] (.reg [S0] (.done))))))))
    (init #[pp bj 0, .int .i64 mark] [bk bj #[sv row] 63,(ss 1 row),(bunL (T (vlen (vdrop (sv row) (Int.toNat mark)))))]) (finM Tryz.prog Tryz.f24 [] [0,1,2] 50 (X:=Unit) (fun _=> .bool true) (fun _=> [bk bj #[(vtake (sv row) (Int.toNat mark))] 63,(ss 1 row),(bunL (T 0))]) (fun _=>True))=
    ((∃_:Unit,True/\Value.bool (decide (mark<(0:Int)))= .bool false)/\ ∀_:Unit,(True)->false=false/\false=false/\false=false/\false=false/\false=false/\rdQ 1 bj (false=false/\(PureRun Tryz.prog (vS (Builtin.len_ #[61] 3 #[sv row])) (.int .i64 ((vlen (sv row):Nat):Int)))/\false=false/\(∃_:Unit,True/\Value.bool (decide (mark>((vlen (sv row):Nat):Int)))= .bool false)/\ ∀_:Unit,(True)->(false=false)/\rdQ 1 bj ((PureRun Tryz.prog (vS (Instr.sliceAt 61 (sv row) (some (.int .i64 mark)) none none)) (vdrop (sv row) (Int.toNat mark)))/\slices_Backward_K (vdrop (sv row) (Int.toNat mark)) (fun x1=>(∀fr' :Nat->Value,fr' 24=Value.func (.func 76) #[] #[pp x1 0]->RangeT Tryz.prog 38 (Operand.tmp 24) #[25,26] Tryz.rfA24 Tryz.rfB24 fr' [(ss 1 row),bk x1 #[(vdrop (sv row) (Int.toNat mark))] 61,(bunL (T (vlen (vdrop (sv row) (Int.toNat mark)))))] Unit (fun _=> [(ss 1 row),(bunL (T 0))]) (fun _=>True))/\(∃_:Unit,True)/\ ∀ (d2:Nat) (_:Unit),(True)->rdQ 1 bj ((PureRun Tryz.prog (vS (Instr.sliceAt 61 (sv row) none (some (.int .i64 mark)) none)) ((vtake (sv row) (Int.toNat mark))))/\opQ Tryz.prog (skS (Instr.storeAt 61 (pp bj 0) ((vtake (sv row) (Int.toNat mark))))) [bk bj #[sv row] 63] Unit (fun _=> .tuple #[]) (fun _=> [bk bj #[(vtake (sv row) (Int.toNat mark))] 63]) (fun _=>True) (fun _=>Slot.blk d2 (.deferred (some []))= .blk d2 (.deferred (some []))/\stage_Back_raw_Q bj row mark T (Value.bool true) (bk bj #[(vtake (sv row) (Int.toNat mark))] 63) (ss 1 row) (bunL (T 0)))))))):=by kernel_rfl
set_option maxRecDepth 100000 in
theorem stage_Back_raw (bj:Nat) (row:Rw) (mark:Int) (T:Nat->List Slot) (h0:0<=mark) (hm:mark<=((vals row).length:Nat)) (hl:(vals row).length<=1073741824) (hT: ∀ (l D:Nat) (fn:FuncId) (tmps:Array Value),tmps.size=38-> ∀x,0<x->x<=vlen (vdrop (sv row) (Int.toNat mark))->RoundT Tryz.prog l #[.int .i64 (((x:Nat):Int) - 1),(vals row).getD (Int.toNat mark+Int.toNat (((x:Nat):Int) - 1)) undef] [loopB l (recOf fn tmps #[25,26] Tryz.rfA24 Tryz.rfB24 D),bunL (T x)] Unit (fun _=> .bool true) (fun _=> [loopB l (recOf fn tmps #[25,26] Tryz.rfA24 Tryz.rfB24 D),bunL (T (x - 1))]) (fun _=>True)):CallT Tryz.prog 24 #[pp bj 0, .int .i64 mark] [bk bj #[sv row] 63,(ss 1 row),(bunL (T (vlen (vdrop (sv row) (Int.toNat mark)))))] Unit (fun _=> .bool true) (fun _=> [bk bj #[(vtake (sv row) (Int.toNat mark))] 63,(ss 1 row),(bunL (T 0))]) (fun _=>True):=by
  refine call_of_mark (c:=bodyOf Tryz.f24) (n:=38) (fn:=Tryz.f24) Tryz.mixed Tryz.func24 (by kernel_rfl) (by kernel_rfl) (by kernel_rfl) 2000 _ [] [0,1,2] 50 rfl rfl (Eq.mpr (stage_Back_raw_vc bj row mark T) ?_)
  have hv1:=vlen_sv row
  refine ⟨⟨(),trivial,congrArg Value.bool (decide_eq_false (by omega))⟩,fun _=>fun _=>⟨rfl,rfl,rfl,rfl,rfl,rdQ_mk 1 _ ⟨rfl,xlen Tryz.sl61 3 row,rfl,⟨(),trivial,congrArg Value.bool (decide_eq_false (by omega))⟩,fun _=>fun _=>⟨rfl,rdQ_mk 1 _ ⟨xdrop Tryz.sl61 row .i64 mark (by omega) (by omega),slices_Backward_m (vdrop (sv row) (Int.toNat mark)) (fun x1 h1=> ?_) (hv:=cells_vdrop _ _)⟩⟩⟩⟩⟩
  exact ⟨fun fr' h24=>range_of (val:=fun _=>undef) (cap:= #[pp x1 0]) h24 fun l D fn tmps hz _=>slices_Backward_1 l (recOf fn tmps #[25,26] Tryz.rfA24 Tryz.rfB24 D) row (Int.toNat mark) x1 T (by omega) hl (hT l D fn tmps hz),⟨(),trivial⟩,fun d2 _ _=>rdQ_mk 1 _ ⟨xtake Tryz.sl61 row .i64 mark (by omega) (by omega),opQ_mk (xputv (b:=bj) (cs:= #[sv row]) (ty:=63) (te:=61) (fun w=>by kernel_rfl) 0 ((vtake (sv row) (Int.toNat mark))) (cells_vtake _ _) (one_vtake _ _) (by show 0<1;decide)) (⟨(),trivial⟩) fun _ _=>⟨rfl,⟨(),trivial,rfl,rfl,rfl,rfl,trivial⟩⟩⟩⟩
set_option maxRecDepth 100000 in
theorem stage_round_vc (l D:Nat) (fn:FuncId) (tmps:Array Value) (i:Int) (e:Ent) (a:N4) (S1 S0:List Slot) (fr:Nat->Value):roundW Tryz.prog 38 l 200 Tryz.rfA24 Tryz.rfB24 (.reg [.sem []] (.reg [.sem [], .callw [1] [1] (fun _ _=>⟨Unit,fun _=>undef,fun _=> [bunL S0],fun _=>True⟩)] .done)) (recOf fn tmps #[25,26] Tryz.rfA24 Tryz.rfB24 D) ⟨putFr fr [(25, .int .i64 i),(26,e.fn a)],ofList (loopB l (recOf fn tmps #[25,26] Tryz.rfA24 Tryz.rfB24 D):: [bunL S1]),[]⟩ [1] (fun _:Unit=> [bunL S0]) (fun _=>True)=(loopB l (recOf fn tmps #[25,26] Tryz.rfA24 Tryz.rfB24 D)=loopB l (recOf fn tmps #[25,26] Tryz.rfA24 Tryz.rfB24 D)/\(CallT Tryz.prog e.g #[ptr a.1,ptr a.2.1,ptr a.2.2.1,ptr a.2.2.2] [bunL S1] Unit (fun _=>undef) (fun _=> [bunL S0]) (fun _=>True))/\(∃_:Unit,True)/\ ∀_:Unit,True->loopB l { (recOf fn tmps #[25,26] Tryz.rfA24 Tryz.rfB24 D) with state:= .busy }=loopB l { (recOf fn tmps #[25,26] Tryz.rfA24 Tryz.rfB24 D) with state:= .busy }/\ ∃_:Unit,True/\bunL S0=bunL S0/\True):=by kernel_rfl
theorem stage_round (l D:Nat) (fn:FuncId) (tmps:Array Value) (i:Int) (e:Ent) (a:N4) (S1 S0:List Slot) (hz:tmps.size=38) (hc:CallT Tryz.prog e.g #[ptr a.1,ptr a.2.1,ptr a.2.2.1,ptr a.2.2.2] [bunL S1] Unit (fun _=>undef) (fun _=> [bunL S0]) (fun _=>True)):RoundT Tryz.prog l #[.int .i64 i,Ent.fn e a] [loopB l (recOf fn tmps #[25,26] Tryz.rfA24 Tryz.rfB24 D),bunL S1] Unit (fun _=> .bool true) (fun _=> [loopB l (recOf fn tmps #[25,26] Tryz.rfA24 Tryz.rfB24 D),bunL S0]) (fun _=>True):=
  round_of (n:=38) (fuel:=200) (Hs:= [bunL S1]) (us:=fun _=> [bunL S0]) Tryz.mixed hz (fun _=>rfl) rfl rfl (.reg [.sem []] (.reg [.sem [], .callw [1] [1] (fun _ _=>⟨Unit,fun _=>undef,fun _=> [bunL S0],fun _=>True⟩)] .done)) [1] rfl (Eq.mpr (stage_round_vc l D fn tmps i e a S1 S0 (fun i=>tmps.getD i undef)) ⟨rfl,hc,⟨(),trivial⟩,fun _ _=>⟨rfl,(),trivial,rfl,trivial⟩⟩)
abbrev stage_undo_raw138_Q (b bj r:Nat) (m:KV) (c0 c1 c2 c3:Nat) (is:Bool) (v k0 k1:Int) (zv:Value) (zs0:Slot) (zs1:Slot) (zs2:Slot) (zs3:Slot) (zs4:Slot) (zs5:Slot):Prop:= ∃zx:KV,(zx=bif is then mset m (Value.agg #[.int .u8 k0, .int .u8 k1]) (vI v) else mdel m (Value.agg #[.int .u8 k0, .int .u8 k1]))/\zv= .tuple #[]/\zs0= .blk b (.cells #[.map (some r),pp bj 0, .func (.func 48) #[] #[]] 138 (0,0))/\zs1=(mo r zx)/\zs2=bk c0 #[.bool is] 4/\zs3=bk c1 (nC v) 29/\zs4=bk c2 #[pp b 0] 96/\zs5=bk c3 #[.int .u8 k0, .int .u8 k1] 99/\True
set_option maxRecDepth 100000 in
theorem stage_undo_raw138_vc (b bj r:Nat) (m:KV) (c0 c1 c2 c3:Nat) (is:Bool) (v k0 k1:Int):codeW Tryz.prog 16 none 2000 none (bodyOf Tryz.f93) (.reg [.sem [.rd 2]] (.cond (.reg [.sem [.rd 4],S0,S0, .sem [.rd 0], .sem [.rd 5, .rd 5], .sem (rds 4 3), .specw [1] [1] F_upd] (.done)) (.reg [.sem [.rd 4],S0,S0, .sem [.rd 0], .sem [.rd 5, .rd 5], .specw [1] [1] F_del] (.done))))
    (init #[pp c0 0,pp c1 0,pp c2 0,pp c3 0] [.blk b (.cells #[.map (some r),pp bj 0, .func (.func 48) #[] #[]] 138 (0,0)),(mo r m),bk c0 #[.bool is] 4,bk c1 (nC v) 29,bk c2 #[pp b 0] 96,bk c3 #[.int .u8 k0, .int .u8 k1] 99]) (finW Tryz.prog Tryz.f93 [] [0,1,2,3,4,5] (X:=KV) (fun zx=> .tuple #[]) (fun zx=> [.blk b (.cells #[.map (some r),pp bj 0, .func (.func 48) #[] #[]] 138 (0,0)),(mo r zx),bk c0 #[.bool is] 4,bk c1 (nC v) 29,bk c2 #[pp b 0] 96,bk c3 #[.int .u8 k0, .int .u8 k1] 99]) (fun zx=>(zx=bif is then mset m (Value.agg #[.int .u8 k0, .int .u8 k1]) (vI v) else mdel m (Value.agg #[.int .u8 k0, .int .u8 k1]))))=
    (rdQ 1 c0 ((is=true->rdQ 1 c2 (rdQ 1 b (rdQ 2 c3 (rdQ 4 c1 (opQ Tryz.prog (skS (Instr.mapUpdate 136 (.map (some r)) (.agg #[.int .u8 k0, .int .u8 k1]) (vI v))) [(mo r m)] KV (fun zx=> .tuple #[]) (fun zx=> [(mo r zx)]) (fun zx=>zx=mset m (Value.agg #[.int .u8 k0, .int .u8 k1]) (vI v)) (fun x1=>stage_undo_raw138_Q b bj r m c0 c1 c2 c3 is v k0 k1 (Value.tuple #[]) (Slot.blk b (.cells #[.map (some r),pp bj 0, .func (.func 48) #[] #[]] 138 (0,0))) (mo r x1) (bk c0 #[.bool is] 4) (bk c1 (nC v) 29) (bk c2 #[pp b 0] 96) (bk c3 #[.int .u8 k0, .int .u8 k1] 99)))))))/\(is=false->rdQ 1 c2 (rdQ 1 b (rdQ 2 c3 (opQ Tryz.prog (vS (Builtin.delete_ #[136,99] 0 #[.map (some r), .agg #[.int .u8 k0, .int .u8 k1]])) [(mo r m)] KV (fun zx=> .tuple #[]) (fun zx=> [(mo r zx)]) (fun zx=>zx=mdel m (Value.agg #[.int .u8 k0, .int .u8 k1])) (fun x2=>stage_undo_raw138_Q b bj r m c0 c1 c2 c3 is v k0 k1 (Value.tuple #[]) (Slot.blk b (.cells #[.map (some r),pp bj 0, .func (.func 48) #[] #[]] 138 (0,0))) (mo r x2) (bk c0 #[.bool is] 4) (bk c1 (nC v) 29) (bk c2 #[pp b 0] 96) (bk c3 #[.int .u8 k0, .int .u8 k1] 99)))))))):=by kernel_rfl
set_option maxRecDepth 100000 in
theorem stage_undo_raw138 (b bj r:Nat) (m:KV) (c0 c1 c2 c3:Nat) (is:Bool) (v k0 k1:Int) (hk:KOK Tryz.mk138 m):CallT Tryz.prog 93 #[pp c0 0,pp c1 0,pp c2 0,pp c3 0] [.blk b (.cells #[.map (some r),pp bj 0, .func (.func 48) #[] #[]] 138 (0,0)),(mo r m),bk c0 #[.bool is] 4,bk c1 (nC v) 29,bk c2 #[pp b 0] 96,bk c3 #[.int .u8 k0, .int .u8 k1] 99] KV (fun zx=> .tuple #[]) (fun zx=> [.blk b (.cells #[.map (some r),pp bj 0, .func (.func 48) #[] #[]] 138 (0,0)),(mo r zx),bk c0 #[.bool is] 4,bk c1 (nC v) 29,bk c2 #[pp b 0] 96,bk c3 #[.int .u8 k0, .int .u8 k1] 99]) (fun zx=>(zx=bif is then mset m (Value.agg #[.int .u8 k0, .int .u8 k1]) (vI v) else mdel m (Value.agg #[.int .u8 k0, .int .u8 k1]))):=by
  refine call_of (c:=bodyOf Tryz.f93) (n:=16) (fn:=Tryz.f93) Tryz.mixed Tryz.func93 (by kernel_rfl) (by kernel_rfl) (by kernel_rfl) 2000 _ [] [0,1,2,3,4,5] rfl rfl (Eq.mpr (stage_undo_raw138_vc b bj r m c0 c1 c2 c3 is v k0 k1) ?_)
  refine rdQ_mk 1 _ ⟨fun h1=> ?_,fun h1=> ?_⟩
  · refine rdQ_mk 1 _ (rdQ_mk 1 _ (rdQ_mk 2 _ (rdQ_mk 4 _ (opQ_mk (xupd Tryz.kl138 hk ⟨_,_,rfl⟩ (vI v)) (⟨_,rfl⟩) fun x1 h2=> ?_))))
    have hu:=h2
    have his:is=true:=by assumption
    exact ⟨_,by rw [hu,his];rfl,rfl,rfl,rfl,rfl,rfl,rfl,rfl,trivial⟩
  refine rdQ_mk 1 _ (rdQ_mk 1 _ (rdQ_mk 2 _ (opQ_mk (xdel Tryz.kl138 0 99 hk ⟨_,_,rfl⟩) (⟨_,rfl⟩) fun x2 h3=> ?_)))
  have hu:=h3
  have his:is=false:=by assumption
  exact ⟨_,by rw [hu,his];rfl,rfl,rfl,rfl,rfl,rfl,rfl,rfl,trivial⟩
theorem Tryz.eok138 {b bj:Nat} {m0:KV} {k0:Int} {k1:Int} (h0:KOK Tryz.mk138 m0):EOK Tryz.prog bj Tryz.mk138 (Tryz.ent138 b m0 (Value.agg #[.int .u8 k0, .int .u8 k1])):=by
  refine ⟨fun a m=> ?_⟩
  cases hg:mget m0 (Value.agg #[.int .u8 k0, .int .u8 k1]) with
  | none =>
    rw [show Ent.undo (Tryz.ent138 b m0 (Value.agg #[.int .u8 k0, .int .u8 k1])) m=(mdel m (Value.agg #[.int .u8 k0, .int .u8 k1])) from by show (match mget m0 (Value.agg #[.int .u8 k0, .int .u8 k1]) with | some v=>mset m (Value.agg #[.int .u8 k0, .int .u8 k1]) v | none=>mdel m (Value.agg #[.int .u8 k0, .int .u8 k1]))=_;rw [hg]]
    have hsl:Ent.sl (Tryz.ent138 b m0 (Value.agg #[.int .u8 k0, .int .u8 k1])) a= [.blk a.1 (.cells #[.bool false] 4 (0,0)), .blk a.2.1 (.cells #[.int .u64 (lim 0 0), .int .u64 (lim 0 1), .int .u64 (lim 0 2), .int .u64 (lim 0 3)] 29 (0,0)), .blk a.2.2.1 (.cells #[.pointer (some ⟨b,0,none⟩)] 96 (0,0)), .blk a.2.2.2 (.cells #[.int .u8 k0, .int .u8 k1] 99 (0,0))]:=by
      show ([.blk a.1 (.cells #[.bool (mget m0 (Value.agg #[.int .u8 k0, .int .u8 k1])).isSome] 4 (0,0)), .blk a.2.1 (.cells ((mget m0 (Value.agg #[.int .u8 k0, .int .u8 k1])).getD (vI 0)).cells 29 (0,0)), .blk a.2.2.1 (.cells #[ptr b] 96 (0,0)), .blk a.2.2.2 (.cells ((Value.agg #[.int .u8 k0, .int .u8 k1]):Value).cells 99 (0,0))]:List Slot)=_
      rw [hg];rfl
    rw [hsl]
    exact (mS_call (K:=Tryz.mk138) (b:=b) (bj:=bj) (m:=m) (m' :=fun x:KV=>x) (us:=fun _=> [.blk a.1 (.cells #[.bool false] 4 (0,0)), .blk a.2.1 (.cells #[.int .u64 (lim 0 0), .int .u64 (lim 0 1), .int .u64 (lim 0 2), .int .u64 (lim 0 3)] 29 (0,0)), .blk a.2.2.1 (.cells #[.pointer (some ⟨b,0,none⟩)] 96 (0,0)), .blk a.2.2.2 (.cells #[.int .u8 k0, .int .u8 k1] 99 (0,0))]) (enterOK (c:=bodyOf Tryz.f93) Tryz.func93 (by kernel_rfl) (by kernel_rfl)) (fun r hk=>stage_undo_raw138 b bj r m a.1 a.2.1 a.2.2.1 a.2.2.2 false 0 k0 k1 hk) (fun x hx hk=>hx▸hk.del _)).exists fun x hx=>⟨(),trivial,rfl,by rw [hx];exact Imp.refl _⟩
  | some w =>
    obtain ⟨v,hv,rfl⟩:=h0.val hg
    rw [show Ent.undo (Tryz.ent138 b m0 (Value.agg #[.int .u8 k0, .int .u8 k1])) m=(mset m (Value.agg #[.int .u8 k0, .int .u8 k1]) (vI v)) from by show (match mget m0 (Value.agg #[.int .u8 k0, .int .u8 k1]) with | some v=>mset m (Value.agg #[.int .u8 k0, .int .u8 k1]) v | none=>mdel m (Value.agg #[.int .u8 k0, .int .u8 k1]))=_;rw [hg]]
    have hsl:Ent.sl (Tryz.ent138 b m0 (Value.agg #[.int .u8 k0, .int .u8 k1])) a= [.blk a.1 (.cells #[.bool true] 4 (0,0)), .blk a.2.1 (.cells #[.int .u64 (lim v 0), .int .u64 (lim v 1), .int .u64 (lim v 2), .int .u64 (lim v 3)] 29 (0,0)), .blk a.2.2.1 (.cells #[.pointer (some ⟨b,0,none⟩)] 96 (0,0)), .blk a.2.2.2 (.cells #[.int .u8 k0, .int .u8 k1] 99 (0,0))]:=by
      show ([.blk a.1 (.cells #[.bool (mget m0 (Value.agg #[.int .u8 k0, .int .u8 k1])).isSome] 4 (0,0)), .blk a.2.1 (.cells ((mget m0 (Value.agg #[.int .u8 k0, .int .u8 k1])).getD (vI 0)).cells 29 (0,0)), .blk a.2.2.1 (.cells #[ptr b] 96 (0,0)), .blk a.2.2.2 (.cells ((Value.agg #[.int .u8 k0, .int .u8 k1]):Value).cells 99 (0,0))]:List Slot)=_
      rw [hg];rfl
    rw [hsl]
    exact (mS_call (K:=Tryz.mk138) (b:=b) (bj:=bj) (m:=m) (m' :=fun x:KV=>x) (us:=fun _=> [.blk a.1 (.cells #[.bool true] 4 (0,0)), .blk a.2.1 (.cells #[.int .u64 (lim v 0), .int .u64 (lim v 1), .int .u64 (lim v 2), .int .u64 (lim v 3)] 29 (0,0)), .blk a.2.2.1 (.cells #[.pointer (some ⟨b,0,none⟩)] 96 (0,0)), .blk a.2.2.2 (.cells #[.int .u8 k0, .int .u8 k1] 99 (0,0))]) (enterOK (c:=bodyOf Tryz.f93) Tryz.func93 (by kernel_rfl) (by kernel_rfl)) (fun r hk=>stage_undo_raw138 b bj r m a.1 a.2.1 a.2.2.1 a.2.2.2 true v k0 k1 hk) (fun x hx hk=>hx▸hk.set (⟨_,_,rfl⟩) ⟨v,hv,rfl⟩)).exists fun x hx=>⟨(),trivial,rfl,by rw [hx];exact Imp.refl _⟩
abbrev stage_undo_raw143_Q (b bj r:Nat) (m:KV) (c0 c1 c2 c3:Nat) (is:Bool) (v k:Int) (zv:Value) (zs0:Slot) (zs1:Slot) (zs2:Slot) (zs3:Slot) (zs4:Slot) (zs5:Slot):Prop:= ∃zx:KV,(zx=bif is then mset m (Value.int .u8 k) (vI v) else mdel m (Value.int .u8 k))/\zv= .tuple #[]/\zs0= .blk b (.cells #[.map (some r),pp bj 0, .func (.func 21) #[] #[]] 143 (0,0))/\zs1=(mo r zx)/\zs2=bk c0 #[.bool is] 4/\zs3=bk c1 (nC v) 29/\zs4=bk c2 #[pp b 0] 101/\zs5=bk c3 #[.int .u8 k] 5/\True
set_option maxRecDepth 100000 in
theorem stage_undo_raw143_vc (b bj r:Nat) (m:KV) (c0 c1 c2 c3:Nat) (is:Bool) (v k:Int):codeW Tryz.prog 16 none 2000 none (bodyOf Tryz.f88) (.reg [.sem [.rd 2]] (.cond (.reg [.sem [.rd 4],S0,S0, .sem [.rd 0], .sem [.rd 5], .sem (rds 4 3), .specw [1] [1] F_upd] (.done)) (.reg [.sem [.rd 4],S0,S0, .sem [.rd 0], .sem [.rd 5], .specw [1] [1] F_del] (.done))))
    (init #[pp c0 0,pp c1 0,pp c2 0,pp c3 0] [.blk b (.cells #[.map (some r),pp bj 0, .func (.func 21) #[] #[]] 143 (0,0)),(mo r m),bk c0 #[.bool is] 4,bk c1 (nC v) 29,bk c2 #[pp b 0] 101,bk c3 #[.int .u8 k] 5]) (finW Tryz.prog Tryz.f88 [] [0,1,2,3,4,5] (X:=KV) (fun zx=> .tuple #[]) (fun zx=> [.blk b (.cells #[.map (some r),pp bj 0, .func (.func 21) #[] #[]] 143 (0,0)),(mo r zx),bk c0 #[.bool is] 4,bk c1 (nC v) 29,bk c2 #[pp b 0] 101,bk c3 #[.int .u8 k] 5]) (fun zx=>(zx=bif is then mset m (Value.int .u8 k) (vI v) else mdel m (Value.int .u8 k))))=
    (rdQ 1 c0 ((is=true->rdQ 1 c2 (rdQ 1 b (rdQ 1 c3 (rdQ 4 c1 (opQ Tryz.prog (skS (Instr.mapUpdate 141 (.map (some r)) (.int .u8 k) (vI v))) [(mo r m)] KV (fun zx=> .tuple #[]) (fun zx=> [(mo r zx)]) (fun zx=>zx=mset m (Value.int .u8 k) (vI v)) (fun x1=>stage_undo_raw143_Q b bj r m c0 c1 c2 c3 is v k (Value.tuple #[]) (Slot.blk b (.cells #[.map (some r),pp bj 0, .func (.func 21) #[] #[]] 143 (0,0))) (mo r x1) (bk c0 #[.bool is] 4) (bk c1 (nC v) 29) (bk c2 #[pp b 0] 101) (bk c3 #[.int .u8 k] 5)))))))/\(is=false->rdQ 1 c2 (rdQ 1 b (rdQ 1 c3 (opQ Tryz.prog (vS (Builtin.delete_ #[141,5] 0 #[.map (some r), .int .u8 k])) [(mo r m)] KV (fun zx=> .tuple #[]) (fun zx=> [(mo r zx)]) (fun zx=>zx=mdel m (Value.int .u8 k)) (fun x2=>stage_undo_raw143_Q b bj r m c0 c1 c2 c3 is v k (Value.tuple #[]) (Slot.blk b (.cells #[.map (some r),pp bj 0, .func (.func 21) #[] #[]] 143 (0,0))) (mo r x2) (bk c0 #[.bool is] 4) (bk c1 (nC v) 29) (bk c2 #[pp b 0] 101) (bk c3 #[.int .u8 k] 5)))))))):=by kernel_rfl
set_option maxRecDepth 100000 in
theorem stage_undo_raw143 (b bj r:Nat) (m:KV) (c0 c1 c2 c3:Nat) (is:Bool) (v k:Int) (hk:KOK Tryz.mk143 m):CallT Tryz.prog 88 #[pp c0 0,pp c1 0,pp c2 0,pp c3 0] [.blk b (.cells #[.map (some r),pp bj 0, .func (.func 21) #[] #[]] 143 (0,0)),(mo r m),bk c0 #[.bool is] 4,bk c1 (nC v) 29,bk c2 #[pp b 0] 101,bk c3 #[.int .u8 k] 5] KV (fun zx=> .tuple #[]) (fun zx=> [.blk b (.cells #[.map (some r),pp bj 0, .func (.func 21) #[] #[]] 143 (0,0)),(mo r zx),bk c0 #[.bool is] 4,bk c1 (nC v) 29,bk c2 #[pp b 0] 101,bk c3 #[.int .u8 k] 5]) (fun zx=>(zx=bif is then mset m (Value.int .u8 k) (vI v) else mdel m (Value.int .u8 k))):=by
  refine call_of (c:=bodyOf Tryz.f88) (n:=16) (fn:=Tryz.f88) Tryz.mixed Tryz.func88 (by kernel_rfl) (by kernel_rfl) (by kernel_rfl) 2000 _ [] [0,1,2,3,4,5] rfl rfl (Eq.mpr (stage_undo_raw143_vc b bj r m c0 c1 c2 c3 is v k) ?_)
  refine rdQ_mk 1 _ ⟨fun h1=> ?_,fun h1=> ?_⟩
  · refine rdQ_mk 1 _ (rdQ_mk 1 _ (rdQ_mk 1 _ (rdQ_mk 4 _ (opQ_mk (xupd Tryz.kl143 hk ⟨_,rfl⟩ (vI v)) (⟨_,rfl⟩) fun x1 h2=> ?_))))
    have hu:=h2
    have his:is=true:=by assumption
    exact ⟨_,by rw [hu,his];rfl,rfl,rfl,rfl,rfl,rfl,rfl,rfl,trivial⟩
  refine rdQ_mk 1 _ (rdQ_mk 1 _ (rdQ_mk 1 _ (opQ_mk (xdel Tryz.kl143 0 5 hk ⟨_,rfl⟩) (⟨_,rfl⟩) fun x2 h3=> ?_)))
  have hu:=h3
  have his:is=false:=by assumption
  exact ⟨_,by rw [hu,his];rfl,rfl,rfl,rfl,rfl,rfl,rfl,rfl,trivial⟩
theorem Tryz.eok143 {b bj:Nat} {m0:KV} {k:Int} (h0:KOK Tryz.mk143 m0):EOK Tryz.prog bj Tryz.mk143 (Tryz.ent143 b m0 (Value.int .u8 k)):=by
  refine ⟨fun a m=> ?_⟩
  cases hg:mget m0 (Value.int .u8 k) with
  | none =>
    rw [show Ent.undo (Tryz.ent143 b m0 (Value.int .u8 k)) m=(mdel m (Value.int .u8 k)) from by show (match mget m0 (Value.int .u8 k) with | some v=>mset m (Value.int .u8 k) v | none=>mdel m (Value.int .u8 k))=_;rw [hg]]
    have hsl:Ent.sl (Tryz.ent143 b m0 (Value.int .u8 k)) a= [.blk a.1 (.cells #[.bool false] 4 (0,0)), .blk a.2.1 (.cells #[.int .u64 (lim 0 0), .int .u64 (lim 0 1), .int .u64 (lim 0 2), .int .u64 (lim 0 3)] 29 (0,0)), .blk a.2.2.1 (.cells #[.pointer (some ⟨b,0,none⟩)] 101 (0,0)), .blk a.2.2.2 (.cells #[.int .u8 k] 5 (0,0))]:=by
      show ([.blk a.1 (.cells #[.bool (mget m0 (Value.int .u8 k)).isSome] 4 (0,0)), .blk a.2.1 (.cells ((mget m0 (Value.int .u8 k)).getD (vI 0)).cells 29 (0,0)), .blk a.2.2.1 (.cells #[ptr b] 101 (0,0)), .blk a.2.2.2 (.cells ((Value.int .u8 k):Value).cells 5 (0,0))]:List Slot)=_
      rw [hg];rfl
    rw [hsl]
    exact (mS_call (K:=Tryz.mk143) (b:=b) (bj:=bj) (m:=m) (m' :=fun x:KV=>x) (us:=fun _=> [.blk a.1 (.cells #[.bool false] 4 (0,0)), .blk a.2.1 (.cells #[.int .u64 (lim 0 0), .int .u64 (lim 0 1), .int .u64 (lim 0 2), .int .u64 (lim 0 3)] 29 (0,0)), .blk a.2.2.1 (.cells #[.pointer (some ⟨b,0,none⟩)] 101 (0,0)), .blk a.2.2.2 (.cells #[.int .u8 k] 5 (0,0))]) (enterOK (c:=bodyOf Tryz.f88) Tryz.func88 (by kernel_rfl) (by kernel_rfl)) (fun r hk=>stage_undo_raw143 b bj r m a.1 a.2.1 a.2.2.1 a.2.2.2 false 0 k hk) (fun x hx hk=>hx▸hk.del _)).exists fun x hx=>⟨(),trivial,rfl,by rw [hx];exact Imp.refl _⟩
  | some w =>
    obtain ⟨v,hv,rfl⟩:=h0.val hg
    rw [show Ent.undo (Tryz.ent143 b m0 (Value.int .u8 k)) m=(mset m (Value.int .u8 k) (vI v)) from by show (match mget m0 (Value.int .u8 k) with | some v=>mset m (Value.int .u8 k) v | none=>mdel m (Value.int .u8 k))=_;rw [hg]]
    have hsl:Ent.sl (Tryz.ent143 b m0 (Value.int .u8 k)) a= [.blk a.1 (.cells #[.bool true] 4 (0,0)), .blk a.2.1 (.cells #[.int .u64 (lim v 0), .int .u64 (lim v 1), .int .u64 (lim v 2), .int .u64 (lim v 3)] 29 (0,0)), .blk a.2.2.1 (.cells #[.pointer (some ⟨b,0,none⟩)] 101 (0,0)), .blk a.2.2.2 (.cells #[.int .u8 k] 5 (0,0))]:=by
      show ([.blk a.1 (.cells #[.bool (mget m0 (Value.int .u8 k)).isSome] 4 (0,0)), .blk a.2.1 (.cells ((mget m0 (Value.int .u8 k)).getD (vI 0)).cells 29 (0,0)), .blk a.2.2.1 (.cells #[ptr b] 101 (0,0)), .blk a.2.2.2 (.cells ((Value.int .u8 k):Value).cells 5 (0,0))]:List Slot)=_
      rw [hg];rfl
    rw [hsl]
    exact (mS_call (K:=Tryz.mk143) (b:=b) (bj:=bj) (m:=m) (m' :=fun x:KV=>x) (us:=fun _=> [.blk a.1 (.cells #[.bool true] 4 (0,0)), .blk a.2.1 (.cells #[.int .u64 (lim v 0), .int .u64 (lim v 1), .int .u64 (lim v 2), .int .u64 (lim v 3)] 29 (0,0)), .blk a.2.2.1 (.cells #[.pointer (some ⟨b,0,none⟩)] 101 (0,0)), .blk a.2.2.2 (.cells #[.int .u8 k] 5 (0,0))]) (enterOK (c:=bodyOf Tryz.f88) Tryz.func88 (by kernel_rfl) (by kernel_rfl)) (fun r hk=>stage_undo_raw143 b bj r m a.1 a.2.1 a.2.2.1 a.2.2.2 true v k hk) (fun x hx hk=>hx▸hk.set (⟨_,rfl⟩) ⟨v,hv,rfl⟩)).exists fun x hx=>⟨(),trivial,rfl,by rw [hx];exact Imp.refl _⟩
theorem undo_shape4 {K0 K1 K2 K3:MK} {b0 b1 b2 b3:Nat} {m0 m1 m2 m3:KV} {l:List MS3} (h:l.map (fun x=>(x.1,x.2.1))=([(K0,b0,m0),(K1,b1,m1),(K2,b2,m2),(K3,b3,m3)]:List MS3).map (fun x=>(x.1,x.2.1))): ∃y0 y1 y2 y3,l= [(K0,b0,y0),(K1,b1,y1),(K2,b2,y2),(K3,b3,y3)]:=by
  match l,h with
  | [x0, x1, x2, x3], h =>
    simp only [List.map_cons,List.map_nil,List.cons.injEq,Prod.mk.injEq,and_true] at h
    obtain ⟨⟨p0,q0⟩,⟨p1,q1⟩,⟨p2,q2⟩,⟨p3,q3⟩⟩:=h
    exact ⟨x0.2.2,x1.2.2,x2.2.2,x3.2.2,by simp only [List.cons.injEq,and_true];exact ⟨Prod.ext p0 (Prod.ext q0 rfl),Prod.ext p1 (Prod.ext q1 rfl),Prod.ext p2 (Prod.ext q2 rfl),Prod.ext p3 (Prod.ext q3 rfl)⟩⟩
noncomputable def stage_Back_138_143_138_143_C:List Value->List Slot->Ctr:=fun vs hs=>⟨KV×KV×KV×KV,fun zx=> .bool true,fun zx=> [(jS Tryz.jk (vblk (varg vs 1)) (List.take (Int.toNat (ci (varg vs 2))) (sents (sarg hs 0)))),(mS Tryz.mk138 (snum (sarg hs 1) 0) (vblk (varg vs 1)) zx.1),(mS Tryz.mk143 (snum (sarg hs 2) 0) (vblk (varg vs 1)) zx.2.1),(mS Tryz.mk138 (snum (sarg hs 3) 0) (vblk (varg vs 1)) zx.2.2.1),(mS Tryz.mk143 (snum (sarg hs 4) 0) (vblk (varg vs 1)) zx.2.2.2)],fun zx=>undoAll (List.drop (Int.toNat (ci (varg vs 2))) (sents (sarg hs 0))) [(Tryz.mk138,(snum (sarg hs 1) 0),(skv (sarg hs 1))),(Tryz.mk143,(snum (sarg hs 2) 0),(skv (sarg hs 2))),(Tryz.mk138,(snum (sarg hs 3) 0),(skv (sarg hs 3))),(Tryz.mk143,(snum (sarg hs 4) 0),(skv (sarg hs 4)))]= [(Tryz.mk138,(snum (sarg hs 1) 0),zx.1),(Tryz.mk143,(snum (sarg hs 2) 0),zx.2.1),(Tryz.mk138,(snum (sarg hs 3) 0),zx.2.2.1),(Tryz.mk143,(snum (sarg hs 4) 0),zx.2.2.2)]⟩
theorem stage_Back_138_143_138_143 (bj:Nat) (L:List Ent) (mark:Int) (b0:Nat) (m0:KV) (b1:Nat) (m1:KV) (b2:Nat) (m2:KV) (b3:Nat) (m3:KV) (h0:0<=mark) (h1:mark<=((List.length L:Nat):Int)) (hl:List.length L<=1000000) (hE: ∀e∈List.drop (Int.toNat mark) L,∃y∈([(Tryz.mk138,b0,m0),(Tryz.mk143,b1,m1),(Tryz.mk138,b2,m2),(Tryz.mk143,b3,m3)]:List MS3),y.2.1=e.b/\EOK Tryz.prog bj y.1 e):CallT Tryz.prog 24 #[.pointer (some ⟨bj,0,none⟩), .int .i64 mark] [(jS Tryz.jk bj L),(mS Tryz.mk138 b0 bj m0),(mS Tryz.mk143 b1 bj m1),(mS Tryz.mk138 b2 bj m2),(mS Tryz.mk143 b3 bj m3)] (KV×KV×KV×KV) (fun zx=> .bool true) (fun zx=> [(jS Tryz.jk bj (List.take (Int.toNat mark) L)),(mS Tryz.mk138 b0 bj zx.1),(mS Tryz.mk143 b1 bj zx.2.1),(mS Tryz.mk138 b2 bj zx.2.2.1),(mS Tryz.mk143 b3 bj zx.2.2.2)]) (fun zx=>(undoAll (List.drop (Int.toNat mark) L) [(Tryz.mk138,b0,m0),(Tryz.mk143,b1,m1),(Tryz.mk138,b2,m2),(Tryz.mk143,b3,m3)]= [(Tryz.mk138,b0,zx.1),(Tryz.mk143,b1,zx.2.1),(Tryz.mk138,b2,zx.2.2.1),(Tryz.mk143,b3,zx.2.2.2)])):=by
  have c:=back_of (K:=Tryz.jk) (bj:=bj) (L:=L) (mark:=mark) (Ms:= [(Tryz.mk138,b0,m0),(Tryz.mk143,b1,m1),(Tryz.mk138,b2,m2),(Tryz.mk143,b3,m3)]) (enterOK (c:=bodyOf Tryz.f24) Tryz.func24 (by kernel_rfl) (by kernel_rfl)) (A:=Tryz.rfA24) (B:=Tryz.rfB24) (ps:= #[25,26]) (n:=38) (fun row T h1 h2 h3=>stage_Back_raw bj row mark T h0 h1 h2 h3) (fun l D fn tmps i e a S1 S0 hz hc=>stage_round l D fn tmps i e a S1 S0 hz hc) h0 h1 hl hE
  have hk:=undoAll_ks (List.drop (Int.toNat mark) L) [(Tryz.mk138,b0,m0),(Tryz.mk143,b1,m1),(Tryz.mk138,b2,m2),(Tryz.mk143,b3,m3)]
  obtain ⟨y0,y1,y2,y3,hu⟩:=undo_shape4 hk
  rw [hu] at c
  exact c.exists fun _ hn=>⟨(y0,y1,y2,y3),hu,rfl,Imp.refl _⟩
theorem Tryz.eoks {bj u0 v0 u1 v1:Nat} {m0 s0 m1 s1:KV} {z:PS} {k:Nat} (h:DQ Tryz.mk138 Tryz.mk143 Tryz.ent138 Tryz.ent143 u0 v0 u1 v1 (PS.mk m0 s0 m1 s1 []) z k): ∀e∈z.L,∃y∈([(Tryz.mk138,u0,z.m0),(Tryz.mk143,v0,z.s0),(Tryz.mk138,u1,z.m1),(Tryz.mk143,v1,z.s1)]:List MS3),y.2.1=e.b/\EOK Tryz.prog bj y.1 e:=
  h.eoks (fun {b a key} hk ha=>⟨rfl,by obtain ⟨t,p,rfl⟩:=hk;exact Tryz.eok138 ha⟩) (fun {b a key} hk ha=>⟨rfl,by obtain ⟨t,rfl⟩:=hk;exact Tryz.eok143 ha⟩)
noncomputable def pair_Book1_C:List Value->List Slot->Ctr:=fun vs hs=>⟨Unit,fun _=> .pointer (some ⟨(vblk (scell (sarg hs 0) 2)),0,none⟩),fun _=>hs,fun _=>True⟩
abbrev pair_Book1_Q (bp bj ba bb bn:Nat) (zv:Value) (zs0:Slot):Prop:= ∃_:Unit,(True)/\zv=pp bb 0/\zs0=bk bp #[pp bj 0,pp ba 0,pp bb 0,pp bn 0] 70/\True
abbrev pair_Book1_A (bp bj ba bb bn:Nat) (zF:SF Unit):Prop:=zF #[pp bp 0, .int .u8 1] [bk bp #[pp bj 0,pp ba 0,pp bb 0,pp bn 0] 70] (fun _=>pp bb 0) (fun _=> [bk bp #[pp bj 0,pp ba 0,pp bb 0,pp bn 0] 70]) (fun _=>True)
set_option maxRecDepth 100000 in
theorem pair_Book1_vc (bp bj ba bb bn:Nat):pair_Book1_A bp bj ba bb bn (fun za zh zv zu zp=>codeW Tryz.prog 14 none 2000 none (bodyOf Tryz.f16) (.reg [S0] (.reg [S0,S0,S0] (.condF (.reg [S0,S0,S0,S0,S0, .sem [.rd 0],S0] (.done)))))
    (init za zh) (finW Tryz.prog Tryz.f16 [] [0] (X:=Unit) zv zu zp))=
    ((false=false)/\rdQ 1 bp (pair_Book1_Q bp bj ba bb bn (pp bb 0) (bk bp #[pp bj 0,pp ba 0,pp bb 0,pp bn 0] 70))):=by kernel_rfl
set_option maxRecDepth 100000 in
theorem pair_Book1 (bp bj ba bb bn:Nat) :pair_Book1_A bp bj ba bb bn (fun za zh zv zu zp=>CallT Tryz.prog 16 za zh Unit zv zu zp):=by
  refine call_of (c:=bodyOf Tryz.f16) (n:=14) (fn:=Tryz.f16) Tryz.mixed Tryz.func16 (by kernel_rfl) (by kernel_rfl) (by kernel_rfl) 2000 _ [] [0] rfl rfl (Eq.mpr (pair_Book1_vc bp bj ba bb bn) ?_)
  exact ⟨rfl,rdQ_mk 1 _ ⟨(),trivial,rfl,rfl,trivial⟩⟩
abbrev pair_Book1_K (bp bj ba bb bn:Nat) (KK:Unit->Prop):Prop:=pair_Book1_A bp bj ba bb bn (fun za zh zv zu zp=>callQr Tryz.prog 16 za zh Unit zv zp KK)
theorem pair_Book1_m (bp bj ba bb bn:Nat) {KK:Unit->Prop} (kont:KK ()) :pair_Book1_K bp bj ba bb bn KK:=callQr_mk (pair_Book1 bp bj ba bb bn) (⟨(),trivial⟩) fun _ _=>kont
noncomputable def pair_Try_1p_C:List Value->List Slot->Ctr:=fun vs hs=>⟨KV×PS,fun zx=> .tuple #[],fun zx=> [.blk (vblk (varg vs 1)) (.cells #[.int .i64 (ci (scell (sarg hs 0) 0))] 41 (0,0)), .blk (vblk (varg vs 2)) (.cells #[.pointer (some ⟨(vblk (scell (sarg hs 1) 0)),0,none⟩)] 25 (0,0)), .blk (vblk (varg vs 3)) (.cells #[.int .i64 (ci (scell (sarg hs 2) 0))] 3 (0,0)), .blk (vblk (varg vs 4)) (.cells #[.int .u8 (ci (scell (sarg hs 3) 0))] 5 (0,0)), .blk (vblk (varg vs 5)) (.cells #[uu (ci (scell (sarg hs 4) 0))] 27 (0,0)), .blk (vblk (scell (sarg hs 1) 0)) (.cells #[.pointer (some ⟨(vblk (scell (sarg hs 5) 0)),0,none⟩), .pointer (some ⟨(vblk (scell (sarg hs 5) 1)),0,none⟩), .pointer (some ⟨(vblk (scell (sarg hs 5) 2)),0,none⟩), .pointer (some ⟨(vblk (scell (sarg hs 5) 3)),0,none⟩)] 70 (0,0)),(mS Tryz.mk107 (vblk (scell (sarg hs 5) 3)) (vblk (scell (sarg hs 5) 0)) zx.1),(jS Tryz.jk (vblk (scell (sarg hs 5) 0)) zx.2.L),(mS Tryz.mk138 (snum (sarg hs 8) 0) (vblk (scell (sarg hs 5) 0)) zx.2.m0),(mS Tryz.mk143 (snum (sarg hs 9) 0) (vblk (scell (sarg hs 5) 0)) zx.2.s0),(mS Tryz.mk138 (snum (sarg hs 10) 0) (vblk (scell (sarg hs 5) 0)) zx.2.m1),(mS Tryz.mk143 (snum (sarg hs 11) 0) (vblk (scell (sarg hs 5) 0)) zx.2.s1)],fun zx=>zx.2.L= []/\(((ci (scell (sarg hs 0) 0))=0/\zx.1=mset (skv (sarg hs 6)) (.int .u8 (ci (scell (sarg hs 3) 0))) (uu (IntKind.u64.wrap ((ci (scell (sarg hs 4) 0))+1)))/\zx.2.m0=(skv (sarg hs 8))/\zx.2.s0=(skv (sarg hs 9))/\zx.2.m1=(skv (sarg hs 10))/\zx.2.s1=(skv (sarg hs 11)))∨((ci (scell (sarg hs 0) 0))≠0/\zx.1=(skv (sarg hs 6))/\undoAll (sents (sarg hs 7)) [(Tryz.mk138,(snum (sarg hs 8) 0),(skv (sarg hs 8))),(Tryz.mk143,(snum (sarg hs 9) 0),(skv (sarg hs 9))),(Tryz.mk138,(snum (sarg hs 10) 0),(skv (sarg hs 10))),(Tryz.mk143,(snum (sarg hs 11) 0),(skv (sarg hs 11)))]= [(Tryz.mk138,(snum (sarg hs 8) 0),zx.2.m0),(Tryz.mk143,(snum (sarg hs 9) 0),zx.2.s0),(Tryz.mk138,(snum (sarg hs 10) 0),zx.2.m1),(Tryz.mk143,(snum (sarg hs 11) 0),zx.2.s1)]))⟩
abbrev pair_Try_1p_Q (c0 c1 c2 c3 c4 bp bj ba bb bn:Nat) (e mk k n:Int) (mn:KV) (L:List Ent) (u0 v0 u1 v1:Nat) (m0 s0 m1 s1:KV) (zv:Value) (zs0:Slot) (zs1:Slot) (zs2:Slot) (zs3:Slot) (zs4:Slot) (zs5:Slot) (zs6:Slot) (zs7:Slot) (zs8:Slot) (zs9:Slot) (zs10:Slot) (zs11:Slot):Prop:= ∃zx:KV×PS,(zx.2.L= []/\((e=0/\zx.1=mset mn (.int .u8 k) (uu (IntKind.u64.wrap (n+1)))/\zx.2.m0=m0/\zx.2.s0=s0/\zx.2.m1=m1/\zx.2.s1=s1)∨(e≠0/\zx.1=mn/\undoAll L [(Tryz.mk138,u0,m0),(Tryz.mk143,v0,s0),(Tryz.mk138,u1,m1),(Tryz.mk143,v1,s1)]= [(Tryz.mk138,u0,zx.2.m0),(Tryz.mk143,v0,zx.2.s0),(Tryz.mk138,u1,zx.2.m1),(Tryz.mk143,v1,zx.2.s1)])))/\zv= .tuple #[]/\zs0=bk c0 #[.int .i64 e] 41/\zs1=bk c1 #[pp bp 0] 25/\zs2=bk c2 #[.int .i64 mk] 3/\zs3=bk c3 #[.int .u8 k] 5/\zs4=bk c4 #[uu n] 27/\zs5=bk bp #[pp bj 0,pp ba 0,pp bb 0,pp bn 0] 70/\zs6=(mS Tryz.mk107 bn bj zx.1)/\zs7=(jS Tryz.jk bj zx.2.L)/\zs8=(mS Tryz.mk138 u0 bj zx.2.m0)/\zs9=(mS Tryz.mk143 v0 bj zx.2.s0)/\zs10=(mS Tryz.mk138 u1 bj zx.2.m1)/\zs11=(mS Tryz.mk143 v1 bj zx.2.s1)/\True
set_option maxRecDepth 100000 in
theorem pair_Try_1p_vc (c0 c1 c2 c3 c4 bp bj ba bb bn:Nat) (e mk k n:Int) (mn:KV) (L:List Ent) (u0 v0 u1 v1:Nat) (m0 s0 m1 s1:KV):codeW Tryz.prog 26 none 2000 none (bodyOf Tryz.f23) (.reg [.sem [.rd 0],S0] (.cond (.reg [.sem [.rd 1],S0,S0, .sem [.rd 5], .sem [.rd 2], .callw [7,8,9,10,11] [7,8,9,10,11] stage_Back_138_143_138_143_C] (.done)) (.reg [.sem [.rd 1],S0,S0, .sem [.rd 5], .sem [.rd 3], .sem [.rd 4],S0, .callw [6,7] [6,7] stage_Set107_C] (.reg [.sem [.rd 1],S0,S0, .sem [.rd 5], .callw [7] [7] stage_Keep_C] (.done)))))
    (init #[pp c0 0,pp c1 0,pp c2 0,pp c3 0,pp c4 0] [bk c0 #[.int .i64 e] 41,bk c1 #[pp bp 0] 25,bk c2 #[.int .i64 mk] 3,bk c3 #[.int .u8 k] 5,bk c4 #[uu n] 27,bk bp #[pp bj 0,pp ba 0,pp bb 0,pp bn 0] 70,(mS Tryz.mk107 bn bj mn),(jS Tryz.jk bj L),(mS Tryz.mk138 u0 bj m0),(mS Tryz.mk143 v0 bj s0),(mS Tryz.mk138 u1 bj m1),(mS Tryz.mk143 v1 bj s1)]) (finW Tryz.prog Tryz.f23 [] [0,1,2,3,4,5,6,7,8,9,10,11] (X:=KV×PS) (fun zx=> .tuple #[]) (fun zx=> [bk c0 #[.int .i64 e] 41,bk c1 #[pp bp 0] 25,bk c2 #[.int .i64 mk] 3,bk c3 #[.int .u8 k] 5,bk c4 #[uu n] 27,bk bp #[pp bj 0,pp ba 0,pp bb 0,pp bn 0] 70,(mS Tryz.mk107 bn bj zx.1),(jS Tryz.jk bj zx.2.L),(mS Tryz.mk138 u0 bj zx.2.m0),(mS Tryz.mk143 v0 bj zx.2.s0),(mS Tryz.mk138 u1 bj zx.2.m1),(mS Tryz.mk143 v1 bj zx.2.s1)]) (fun zx=>(zx.2.L= []/\((e=0/\zx.1=mset mn (.int .u8 k) (uu (IntKind.u64.wrap (n+1)))/\zx.2.m0=m0/\zx.2.s0=s0/\zx.2.m1=m1/\zx.2.s1=s1)∨(e≠0/\zx.1=mn/\undoAll L [(Tryz.mk138,u0,m0),(Tryz.mk143,v0,s0),(Tryz.mk138,u1,m1),(Tryz.mk143,v1,s1)]= [(Tryz.mk138,u0,zx.2.m0),(Tryz.mk143,v0,zx.2.s0),(Tryz.mk138,u1,zx.2.m1),(Tryz.mk143,v1,zx.2.s1)])))))=
    (rdQ 1 c0 (((e !=(0:Int))=true->rdQ 1 c1 (rdQ 1 bp (rdQ 1 c2 (callQ Tryz.prog 24 #[pp bj 0, .int .i64 mk] [(jS Tryz.jk bj L),(mS Tryz.mk138 u0 bj m0),(mS Tryz.mk143 v0 bj s0),(mS Tryz.mk138 u1 bj m1),(mS Tryz.mk143 v1 bj s1)] (KV×KV×KV×KV) (fun zx=> .bool true) (fun zx=> [(jS Tryz.jk bj (List.take (Int.toNat mk) L)),(mS Tryz.mk138 u0 bj zx.1),(mS Tryz.mk143 v0 bj zx.2.1),(mS Tryz.mk138 u1 bj zx.2.2.1),(mS Tryz.mk143 v1 bj zx.2.2.2)]) (fun zx=>undoAll (List.drop (Int.toNat mk) L) [(Tryz.mk138,u0,m0),(Tryz.mk143,v0,s0),(Tryz.mk138,u1,m1),(Tryz.mk143,v1,s1)]= [(Tryz.mk138,u0,zx.1),(Tryz.mk143,v0,zx.2.1),(Tryz.mk138,u1,zx.2.2.1),(Tryz.mk143,v1,zx.2.2.2)]) (fun x1=>pair_Try_1p_Q c0 c1 c2 c3 c4 bp bj ba bb bn e mk k n mn L u0 v0 u1 v1 m0 s0 m1 s1 (Value.tuple #[]) (bk c0 #[.int .i64 e] 41) (bk c1 #[pp bp 0] 25) (bk c2 #[.int .i64 mk] 3) (bk c3 #[.int .u8 k] 5) (bk c4 #[uu n] 27) (bk bp #[pp bj 0,pp ba 0,pp bb 0,pp bn 0] 70) (mS Tryz.mk107 bn bj mn) (jS Tryz.jk bj (List.take (Int.toNat mk) L)) (mS Tryz.mk138 u0 bj x1.1) (mS Tryz.mk143 v0 bj x1.2.1) (mS Tryz.mk138 u1 bj x1.2.2.1) (mS Tryz.mk143 v1 bj x1.2.2.2))))))/\((e !=(0:Int))=false->rdQ 1 c1 (rdQ 1 bp (rdQ 1 c3 (rdQ 1 c4 (callQ Tryz.prog 25 #[pp bn 0, .int .u8 k,uu (IntKind.u64.wrap (n+1))] [(mS Tryz.mk107 bn bj mn),(jS Tryz.jk bj L)] (KV×List Ent) (fun zx=> .tuple #[]) (fun zx=> [(mS Tryz.mk107 bn bj zx.1),(jS Tryz.jk bj zx.2)]) (fun zx=>zx.1=mset mn (Value.int .u8 k) (uu (IntKind.u64.wrap (n+1)))/\zx.2=L++ [(Tryz.ent107 bn mn (Value.int .u8 k))]) (fun x2=>rdQ 1 c1 (rdQ 1 bp (callQ Tryz.prog 26 #[pp bj 0] [(jS Tryz.jk bj x2.2)] Unit (fun _=> .tuple #[]) (fun _=> [(jS Tryz.jk bj ([]))]) (fun _=>True) (fun _=>pair_Try_1p_Q c0 c1 c2 c3 c4 bp bj ba bb bn e mk k n mn L u0 v0 u1 v1 m0 s0 m1 s1 (Value.tuple #[]) (bk c0 #[.int .i64 e] 41) (bk c1 #[pp bp 0] 25) (bk c2 #[.int .i64 mk] 3) (bk c3 #[.int .u8 k] 5) (bk c4 #[uu n] 27) (bk bp #[pp bj 0,pp ba 0,pp bb 0,pp bn 0] 70) (mS Tryz.mk107 bn bj x2.1) (jS Tryz.jk bj ([])) (mS Tryz.mk138 u0 bj m0) (mS Tryz.mk143 v0 bj s0) (mS Tryz.mk138 u1 bj m1) (mS Tryz.mk143 v1 bj s1)))))))))))):=by kernel_rfl
set_option maxRecDepth 100000 in
theorem pair_Try_1p (c0 c1 c2 c3 c4 bp bj ba bb bn:Nat) (e mk k n:Int) (mn:KV) (L:List Ent) (u0 v0 u1 v1:Nat) (m0 s0 m1 s1:KV) (hl:L.length<=1000000) (hmk:mk=0) (hE: ∀e∈L,∃y∈([(Tryz.mk138,u0,m0),(Tryz.mk143,v0,s0),(Tryz.mk138,u1,m1),(Tryz.mk143,v1,s1)]:List MS3),y.2.1=e.b/\EOK Tryz.prog bj y.1 e):CallD Tryz.prog 23 #[pp c0 0,pp c1 0,pp c2 0,pp c3 0,pp c4 0] [bk c0 #[.int .i64 e] 41,bk c1 #[pp bp 0] 25,bk c2 #[.int .i64 mk] 3,bk c3 #[.int .u8 k] 5,bk c4 #[uu n] 27,bk bp #[pp bj 0,pp ba 0,pp bb 0,pp bn 0] 70,(mS Tryz.mk107 bn bj mn),(jS Tryz.jk bj L),(mS Tryz.mk138 u0 bj m0),(mS Tryz.mk143 v0 bj s0),(mS Tryz.mk138 u1 bj m1),(mS Tryz.mk143 v1 bj s1)] (KV×PS) (fun zx=> [bk c0 #[.int .i64 e] 41,bk c1 #[pp bp 0] 25,bk c2 #[.int .i64 mk] 3,bk c3 #[.int .u8 k] 5,bk c4 #[uu n] 27,bk bp #[pp bj 0,pp ba 0,pp bb 0,pp bn 0] 70,(mS Tryz.mk107 bn bj zx.1),(jS Tryz.jk bj zx.2.L),(mS Tryz.mk138 u0 bj zx.2.m0),(mS Tryz.mk143 v0 bj zx.2.s0),(mS Tryz.mk138 u1 bj zx.2.m1),(mS Tryz.mk143 v1 bj zx.2.s1)]) (fun zx=>(zx.2.L= []/\((e=0/\zx.1=mset mn (.int .u8 k) (uu (IntKind.u64.wrap (n+1)))/\zx.2.m0=m0/\zx.2.s0=s0/\zx.2.m1=m1/\zx.2.s1=s1)∨(e≠0/\zx.1=mn/\undoAll L [(Tryz.mk138,u0,m0),(Tryz.mk143,v0,s0),(Tryz.mk138,u1,m1),(Tryz.mk143,v1,s1)]= [(Tryz.mk138,u0,zx.2.m0),(Tryz.mk143,v0,zx.2.s0),(Tryz.mk138,u1,zx.2.m1),(Tryz.mk143,v1,zx.2.s1)])))):=by
  refine callD_of (val:=(fun zx=> .tuple #[])) (c:=bodyOf Tryz.f23) (n:=26) (fn:=Tryz.f23) Tryz.mixed Tryz.func23 (by kernel_rfl) (by kernel_rfl) (by kernel_rfl) 2000 _ [] [0,1,2,3,4,5,6,7,8,9,10,11] rfl rfl (Eq.mpr (pair_Try_1p_vc c0 c1 c2 c3 c4 bp bj ba bb bn e mk k n mn L u0 v0 u1 v1 m0 s0 m1 s1) ?_)
  refine rdQ_mk 1 _ ⟨fun h1=> ?_,fun h1=> ?_⟩
  · refine rdQ_mk 1 _ (rdQ_mk 1 _ (rdQ_mk 1 _ (callQ_mk (stage_Back_138_143_138_143 bj L mk u0 m0 v0 s0 u1 m1 v1 s1 (by omega) (by omega) (by omega) (by rw [hmk];exact hE)) ((undo_shape4 (undoAll_ks _ _)).elim fun y0 h=>h.elim fun y1 h=>h.elim fun y2 h=>h.elim fun y3 h=>⟨(y0,y1,y2,y3),h⟩) fun x1 h2=> ?_)))
    have hbk:=h2
    unfold pair_Try_1p_Q
    have he:e≠0:=bne_iff_ne.1 (by assumption)
    subst hmk
    exact ⟨(mn,⟨x1.1,x1.2.1,x1.2.2.1,x1.2.2.2,List.take (Int.toNat 0) L⟩),⟨rfl, .inr ⟨he,rfl,hbk⟩⟩,rfl,rfl,rfl,rfl,rfl,rfl,rfl,rfl,rfl,rfl,rfl,rfl,rfl,trivial⟩
  refine rdQ_mk 1 _ (rdQ_mk 1 _ (rdQ_mk 1 _ (rdQ_mk 1 _ (callQ_mk (stage_Set107 bn bj mn L k (IntKind.u64.wrap (n+1)) (wf_wrapu _) (by omega)) (⟨(_,_),rfl,rfl⟩) fun x2 h3=> ?_))))
  have hs:=h3
  refine rdQ_mk 1 _ (rdQ_mk 1 _ (callQ_mk (stage_Keep bj x2.2) (⟨(),trivial⟩) fun _ _=> ?_))
  have he:e=0:=bne_eq_false_iff_eq.1 (by assumption)
  exact ⟨(_,⟨_,_,_,_,_⟩),⟨rfl, .inl ⟨he,hs.1,rfl,rfl,rfl,rfl⟩⟩,rfl,rfl,rfl,rfl,rfl,rfl,rfl,rfl,rfl,rfl,rfl,rfl,rfl,trivial⟩
noncomputable def law14_one_C:List Value->List Slot->Ctr:=fun vs hs=>⟨Int×PS,fun zx=> .int .i64 zx.1,fun zx=> [.blk (vblk (varg vs 1)) (.cells #[.pointer (some ⟨(vblk (scell (sarg hs 0) 0)),0,none⟩), .pointer (some ⟨(vblk (scell (sarg hs 0) 1)),0,none⟩), .pointer (some ⟨(vblk (scell (sarg hs 0) 2)),0,none⟩), .pointer (some ⟨(vblk (scell (sarg hs 0) 3)),0,none⟩)] 70 (0,0)), .blk (vblk (scell (sarg hs 0) 1)) (.cells #[.pointer (some ⟨(vblk (scell (sarg hs 1) 0)),0,none⟩), .pointer (some ⟨(vblk (scell (sarg hs 1) 1)),0,none⟩)] 104 (0,0)), .blk (vblk (scell (sarg hs 0) 2)) (.cells #[.pointer (some ⟨(vblk (scell (sarg hs 2) 0)),0,none⟩), .pointer (some ⟨(vblk (scell (sarg hs 2) 1)),0,none⟩)] 104 (0,0)),(mS Tryz.mk138 (vblk (scell (sarg hs 1) 0)) (vblk (scell (sarg hs 0) 0)) zx.2.m0),(mS Tryz.mk143 (vblk (scell (sarg hs 1) 1)) (vblk (scell (sarg hs 0) 0)) zx.2.s0),(mS Tryz.mk138 (vblk (scell (sarg hs 2) 0)) (vblk (scell (sarg hs 0) 0)) zx.2.m1),(mS Tryz.mk143 (vblk (scell (sarg hs 2) 1)) (vblk (scell (sarg hs 0) 0)) zx.2.s1),(jS Tryz.jk (vblk (scell (sarg hs 0) 0)) zx.2.L)],fun zx=>OneR Tryz.mk138 Tryz.mk143 Tryz.ent138 Tryz.ent143 (vblk (scell (sarg hs 1) 0)) (vblk (scell (sarg hs 1) 1)) (vblk (scell (sarg hs 2) 0)) (vblk (scell (sarg hs 2) 1)) (PS.mk (skv (sarg hs 3)) (skv (sarg hs 4)) (skv (sarg hs 5)) (skv (sarg hs 6)) (sents (sarg hs 7))) ((ci (cell (varg vs 2) 0)),(ci (cell (varg vs 2) 1)),(ci (cell (varg vs 2) 2)),(ci (cell (varg vs 2) 3)),(ci (cell (varg vs 2) 4)),(num (.agg #[cell (varg vs 2) 5,cell (varg vs 2) 6,cell (varg vs 2) 7,cell (varg vs 2) 8]))) zx⟩
abbrev law14_one_Q (bp bj ba bb bn u0 v0 u1 v1:Nat) (m0 s0 m1 s1:KV) (L:List Ent) (sd kd tk fr to n:Int) (zv:Value) (zs0:Slot) (zs1:Slot) (zs2:Slot) (zs3:Slot) (zs4:Slot) (zs5:Slot) (zs6:Slot) (zs7:Slot):Prop:= ∃zx:Int×PS,(OneR Tryz.mk138 Tryz.mk143 Tryz.ent138 Tryz.ent143 u0 v0 u1 v1 (PS.mk m0 s0 m1 s1 L) (sd,kd,tk,fr,to,(num (vI n))) zx)/\zv= .int .i64 zx.1/\zs0=bk bp #[pp bj 0,pp ba 0,pp bb 0,pp bn 0] 70/\zs1=bk ba #[pp u0 0,pp v0 0] 104/\zs2=bk bb #[pp u1 0,pp v1 0] 104/\zs3=(mS Tryz.mk138 u0 bj zx.2.m0)/\zs4=(mS Tryz.mk143 v0 bj zx.2.s0)/\zs5=(mS Tryz.mk138 u1 bj zx.2.m1)/\zs6=(mS Tryz.mk143 v1 bj zx.2.s1)/\zs7=(jS Tryz.jk bj zx.2.L)/\True
abbrev law14_one_A (bp bj ba bb bn u0 v0 u1 v1:Nat) (m0 s0 m1 s1:KV) (L:List Ent) (sd kd tk fr to n:Int) (zF:SF (Int×PS)):Prop:=zF #[pp bp 0, .agg #[.int .u8 sd, .int .u8 kd, .int .u8 tk, .int .u8 fr, .int .u8 to,uu (lim n 0),uu (lim n 1),uu (lim n 2),uu (lim n 3)]] [bk bp #[pp bj 0,pp ba 0,pp bb 0,pp bn 0] 70,bk ba #[pp u0 0,pp v0 0] 104,bk bb #[pp u1 0,pp v1 0] 104,(mS Tryz.mk138 u0 bj m0),(mS Tryz.mk143 v0 bj s0),(mS Tryz.mk138 u1 bj m1),(mS Tryz.mk143 v1 bj s1),(jS Tryz.jk bj L)] (fun zx=> .int .i64 zx.1) (fun zx=> [bk bp #[pp bj 0,pp ba 0,pp bb 0,pp bn 0] 70,bk ba #[pp u0 0,pp v0 0] 104,bk bb #[pp u1 0,pp v1 0] 104,(mS Tryz.mk138 u0 bj zx.2.m0),(mS Tryz.mk143 v0 bj zx.2.s0),(mS Tryz.mk138 u1 bj zx.2.m1),(mS Tryz.mk143 v1 bj zx.2.s1),(jS Tryz.jk bj zx.2.L)]) (fun zx=>(OneR Tryz.mk138 Tryz.mk143 Tryz.ent138 Tryz.ent143 u0 v0 u1 v1 (PS.mk m0 s0 m1 s1 L) (sd,kd,tk,fr,to,(num (vI n))) zx))
set_option maxRecDepth 100000 in
theorem law14_one_vc (bp bj ba bb bn u0 v0 u1 v1:Nat) (m0 s0 m1 s1:KV) (L:List Ent) (sd kd tk fr to n:Int):law14_one_A bp bj ba bb bn u0 v0 u1 v1 m0 s0 m1 s1 L sd kd tk fr to n (fun za zh zv zu zp=>codeW Tryz.prog 55 none 2000 none (bodyOf Tryz.f11) (.reg [.sem [.nw 8],S0] (.caseP (fun s=>decide (sd%2=0)) (.reg [S0,S0, .sem [.rd 8], .gen [] (Sx.one (.int .u8 0)), .callr [0] pair_Book0_C,S0] (.reg [S0,S0, .sem [.rd 8], .gen [] (fun vs=>Sx.one (.int .u8 (ci (varg vs 0)%3)) vs)] (.reg [S0,S0] (.cond (.reg [S0,S0,S0, .sem [.rd 8],S0,S0, .sem [.rd 8],S0,S0, .sem (rds 4 8), .callw [1,3,4,7] [1,3,4,7] book_Mint_C,S0] (.done)) (.reg [S0,S0] (.cond (.reg [S0,S0,S0, .sem [.rd 8],S0,S0, .sem [.rd 8],S0,S0, .sem (rds 4 8), .callw [1,3,4,7] [1,3,4,7] book_Burn_C,S0] (.done)) (.reg [S0,S0,S0, .sem [.rd 8],S0,S0, .sem [.rd 8],S0,S0, .sem [.rd 8],S0,S0, .sem (rds 4 8), .callw [1,3,4,7] [1,3,4,7] book_Move_C,S0] (.done)))))))) (.reg [S0,S0, .sem [.rd 8], .gen [] (Sx.one (.int .u8 1)), .callr [0] pair_Book1_C,S0] (.reg [S0,S0, .sem [.rd 8], .gen [] (fun vs=>Sx.one (.int .u8 (ci (varg vs 0)%3)) vs)] (.reg [S0,S0] (.cond (.reg [S0,S0,S0, .sem [.rd 8],S0,S0, .sem [.rd 8],S0,S0, .sem (rds 4 8), .callw [2,5,6,7] [2,5,6,7] book_Mint_C,S0] (.done)) (.reg [S0,S0] (.cond (.reg [S0,S0,S0, .sem [.rd 8],S0,S0, .sem [.rd 8],S0,S0, .sem (rds 4 8), .callw [2,5,6,7] [2,5,6,7] book_Burn_C,S0] (.done)) (.reg [S0,S0,S0, .sem [.rd 8],S0,S0, .sem [.rd 8],S0,S0, .sem [.rd 8],S0,S0, .sem (rds 4 8), .callw [2,5,6,7] [2,5,6,7] book_Move_C,S0] (.done))))))))))
    (init za zh) (finW Tryz.prog Tryz.f11 [] [0,1,2,3,4,5,6,7] (X:=Int×PS) zv zu zp))=
    (∀b1:Nat,((decide (sd%2=0))=true->rdQ 1 b1 ((∃_:Unit,True/\Value.int .u8 (Int.tmod sd 2)= .int .u8 0)/\ ∀_:Unit,(True)->pair_Book0_K bp bj ba bb bn (fun _=>rdQ 1 b1 ((∃_:Unit,True/\Value.int .u8 (Int.tmod kd 3)= .int .u8 ((kd)%3))/\ ∀_:Unit,(True)->((((kd)%3)==(0:Int))=true->rdQ 6 b1 (book_Mint_K ba u0 v0 bj m0 s0 L tk fr n (fun x2=>law14_one_Q bp bj ba bb bn u0 v0 u1 v1 m0 s0 m1 s1 L sd kd tk fr to n (Value.int .i64 x2.1) (bk bp #[pp bj 0,pp ba 0,pp bb 0,pp bn 0] 70) (bk ba #[pp u0 0,pp v0 0] 104) (bk bb #[pp u1 0,pp v1 0] 104) (mS Tryz.mk138 u0 bj x2.2.1) (mS Tryz.mk143 v0 bj x2.2.2.1) (mS Tryz.mk138 u1 bj m1) (mS Tryz.mk143 v1 bj s1) (jS Tryz.jk bj x2.2.2.2))))/\((((kd)%3)==(0:Int))=false->((((kd)%3)==(1:Int))=true->rdQ 6 b1 (book_Burn_K ba u0 v0 bj m0 s0 L tk fr n (fun x3=>law14_one_Q bp bj ba bb bn u0 v0 u1 v1 m0 s0 m1 s1 L sd kd tk fr to n (Value.int .i64 x3.1) (bk bp #[pp bj 0,pp ba 0,pp bb 0,pp bn 0] 70) (bk ba #[pp u0 0,pp v0 0] 104) (bk bb #[pp u1 0,pp v1 0] 104) (mS Tryz.mk138 u0 bj x3.2.1) (mS Tryz.mk143 v0 bj x3.2.2.1) (mS Tryz.mk138 u1 bj m1) (mS Tryz.mk143 v1 bj s1) (jS Tryz.jk bj x3.2.2.2))))/\((((kd)%3)==(1:Int))=false->rdQ 7 b1 (book_Move_K ba u0 v0 bj m0 s0 L tk fr to n (fun x4=>law14_one_Q bp bj ba bb bn u0 v0 u1 v1 m0 s0 m1 s1 L sd kd tk fr to n (Value.int .i64 x4.1) (bk bp #[pp bj 0,pp ba 0,pp bb 0,pp bn 0] 70) (bk ba #[pp u0 0,pp v0 0] 104) (bk bb #[pp u1 0,pp v1 0] 104) (mS Tryz.mk138 u0 bj x4.2.1) (mS Tryz.mk143 v0 bj x4.2.2.1) (mS Tryz.mk138 u1 bj m1) (mS Tryz.mk143 v1 bj s1) (jS Tryz.jk bj x4.2.2.2)))))))))/\((decide (sd%2=0))=false->rdQ 1 b1 ((∃_:Unit,True/\Value.int .u8 (Int.tmod sd 2)= .int .u8 1)/\ ∀_:Unit,(True)->pair_Book1_K bp bj ba bb bn (fun _=>rdQ 1 b1 ((∃_:Unit,True/\Value.int .u8 (Int.tmod kd 3)= .int .u8 ((kd)%3))/\ ∀_:Unit,(True)->((((kd)%3)==(0:Int))=true->rdQ 6 b1 (book_Mint_K bb u1 v1 bj m1 s1 L tk fr n (fun x5=>law14_one_Q bp bj ba bb bn u0 v0 u1 v1 m0 s0 m1 s1 L sd kd tk fr to n (Value.int .i64 x5.1) (bk bp #[pp bj 0,pp ba 0,pp bb 0,pp bn 0] 70) (bk ba #[pp u0 0,pp v0 0] 104) (bk bb #[pp u1 0,pp v1 0] 104) (mS Tryz.mk138 u0 bj m0) (mS Tryz.mk143 v0 bj s0) (mS Tryz.mk138 u1 bj x5.2.1) (mS Tryz.mk143 v1 bj x5.2.2.1) (jS Tryz.jk bj x5.2.2.2))))/\((((kd)%3)==(0:Int))=false->((((kd)%3)==(1:Int))=true->rdQ 6 b1 (book_Burn_K bb u1 v1 bj m1 s1 L tk fr n (fun x6=>law14_one_Q bp bj ba bb bn u0 v0 u1 v1 m0 s0 m1 s1 L sd kd tk fr to n (Value.int .i64 x6.1) (bk bp #[pp bj 0,pp ba 0,pp bb 0,pp bn 0] 70) (bk ba #[pp u0 0,pp v0 0] 104) (bk bb #[pp u1 0,pp v1 0] 104) (mS Tryz.mk138 u0 bj m0) (mS Tryz.mk143 v0 bj s0) (mS Tryz.mk138 u1 bj x6.2.1) (mS Tryz.mk143 v1 bj x6.2.2.1) (jS Tryz.jk bj x6.2.2.2))))/\((((kd)%3)==(1:Int))=false->rdQ 7 b1 (book_Move_K bb u1 v1 bj m1 s1 L tk fr to n (fun x7=>law14_one_Q bp bj ba bb bn u0 v0 u1 v1 m0 s0 m1 s1 L sd kd tk fr to n (Value.int .i64 x7.1) (bk bp #[pp bj 0,pp ba 0,pp bb 0,pp bn 0] 70) (bk ba #[pp u0 0,pp v0 0] 104) (bk bb #[pp u1 0,pp v1 0] 104) (mS Tryz.mk138 u0 bj m0) (mS Tryz.mk143 v0 bj s0) (mS Tryz.mk138 u1 bj x7.2.1) (mS Tryz.mk143 v1 bj x7.2.2.1) (jS Tryz.jk bj x7.2.2.2)))))))))):=by kernel_rfl
set_option maxRecDepth 100000 in
theorem law14_one (bp bj ba bb bn u0 v0 u1 v1:Nat) (m0 s0 m1 s1:KV) (L:List Ent) (sd kd tk fr to n:Int) (r_n:R4 n) (w1:(Lit.int .u8 sd).wf=true) (w2:(Lit.int .u8 kd).wf=true) (w3:(Lit.int .u8 tk).wf=true) (w4:(Lit.int .u8 fr).wf=true) (w5:(Lit.int .u8 to).wf=true) (hP:GP Tryz.mk138 Tryz.mk143 (PS.mk m0 s0 m1 s1 L)) (hN: [u0,v0,u1,v1].Nodup) (hl:L.length<=1000):law14_one_A bp bj ba bb bn u0 v0 u1 v1 m0 s0 m1 s1 L sd kd tk fr to n (fun za zh zv zu zp=>CallT Tryz.prog 11 za zh (Int×PS) zv zu zp):=by
  refine call_of (c:=bodyOf Tryz.f11) (n:=55) (fn:=Tryz.f11) Tryz.mixed Tryz.func11 (by kernel_rfl) (by kernel_rfl) (by kernel_rfl) 2000 _ [] [0,1,2,3,4,5,6,7] rfl rfl (Eq.mpr (law14_one_vc bp bj ba bb bn u0 v0 u1 v1 m0 s0 m1 s1 L sd kd tk fr to n) ?_)
  have kb0:KOK Tryz.mk138 m0:=hP.a.kb
  have ks0:KOK Tryz.mk143 s0:=hP.a.ks
  have kb1:KOK Tryz.mk138 m1:=hP.b.kb
  have ks1:KOK Tryz.mk143 s1:=hP.b.ks
  intro b1
  refine ⟨fun h1=> ?_,fun h1=> ?_⟩
  · refine rdQ_mk 1 _ ⟨⟨(),trivial,congrArg (Value.int .u8) ((rem8 w1 (by decide)).trans (of_decide_eq_true h1))⟩,fun _=>fun _=>pair_Book0_m bp bj ba bb bn (rdQ_mk 1 _ ⟨⟨(),trivial,congrArg (Value.int .u8) (rem8 w2 (by decide))⟩,fun _=>fun _=>⟨fun h2=> ?_,fun h2=> ?_⟩⟩)⟩
    · refine rdQ_mk 6 _ (book_Mint_m ba u0 v0 bj m0 s0 L tk fr n (fun x2 h3=> ?_))
      have hy:=h3
      have hs:sd%2=0:=of_decide_eq_true h1
      obtain ⟨n1,_,_,_,_,n6⟩:=nodup4 hN
      have hk0:kd%3=0:=beq_iff_eq.1 h2
      have hO:=one0 (d:=(sd,kd,tk,fr,to,n)) Tryz.entOK138 Tryz.entOK143 hN hP hs (act_mint Tryz.numk138 Tryz.numk143 Tryz.ob Tryz.os Tryz.entOK138 Tryz.entOK143 n1 hP.a r_n (wf8 w3).1 (wf8 w4).1 hk0 hy)
      exact ⟨(x2.1,⟨x2.2.1,x2.2.2.1,m1,s1,x2.2.2.2⟩),by rw [num_vI r_n];exact hO,rfl,rfl,rfl,rfl,rfl,rfl,rfl,rfl,rfl,trivial⟩
    refine ⟨fun h4=> ?_,fun h4=> ?_⟩
    · refine rdQ_mk 6 _ (book_Burn_m ba u0 v0 bj m0 s0 L tk fr n (fun x3 h5=> ?_))
      have hy:=h5
      have hs:sd%2=0:=of_decide_eq_true h1
      obtain ⟨n1,_,_,_,_,n6⟩:=nodup4 hN
      have hk0: ¬kd%3=0:=beq_eq_false_iff_ne.1 h2
      have hk1:kd%3=1:=beq_iff_eq.1 h4
      have hO:=one0 (d:=(sd,kd,tk,fr,to,n)) Tryz.entOK138 Tryz.entOK143 hN hP hs (act_burn Tryz.numk138 Tryz.numk143 Tryz.ob Tryz.os Tryz.entOK138 Tryz.entOK143 n1 hP.a r_n (wf8 w3).1 (wf8 w4).1 hk0 hk1 hy)
      exact ⟨(x3.1,⟨x3.2.1,x3.2.2.1,m1,s1,x3.2.2.2⟩),by rw [num_vI r_n];exact hO,rfl,rfl,rfl,rfl,rfl,rfl,rfl,rfl,rfl,trivial⟩
    refine rdQ_mk 7 _ (book_Move_m ba u0 v0 bj m0 s0 L tk fr to n (fun x4 h6=> ?_))
    have hy:=h6
    have hs:sd%2=0:=of_decide_eq_true h1
    obtain ⟨n1,_,_,_,_,n6⟩:=nodup4 hN
    have hk0: ¬kd%3=0:=beq_eq_false_iff_ne.1 h2
    have hk1: ¬kd%3=1:=beq_eq_false_iff_ne.1 h4
    have hO:=one0 (d:=(sd,kd,tk,fr,to,n)) Tryz.entOK138 Tryz.entOK143 hN hP hs (act_move Tryz.numk138 Tryz.numk143 Tryz.ob Tryz.entOK138 Tryz.entOK143 n1 hP.a r_n (wf8 w3).1 (wf8 w4).1 (wf8 w5).1 hk0 hk1 hy)
    exact ⟨(x4.1,⟨x4.2.1,x4.2.2.1,m1,s1,x4.2.2.2⟩),by rw [num_vI r_n];exact hO,rfl,rfl,rfl,rfl,rfl,rfl,rfl,rfl,rfl,trivial⟩
  refine rdQ_mk 1 _ ⟨⟨(),trivial,congrArg (Value.int .u8) ((rem8 w1 (by decide)).trans (by have q:=of_decide_eq_false h1;omega))⟩,fun _=>fun _=>pair_Book1_m bp bj ba bb bn (rdQ_mk 1 _ ⟨⟨(),trivial,congrArg (Value.int .u8) (rem8 w2 (by decide))⟩,fun _=>fun _=>⟨fun h7=> ?_,fun h7=> ?_⟩⟩)⟩
  · refine rdQ_mk 6 _ (book_Mint_m bb u1 v1 bj m1 s1 L tk fr n (fun x5 h8=> ?_))
    have hy:=h8
    have hs: ¬sd%2=0:=of_decide_eq_false h1
    obtain ⟨n1,_,_,_,_,n6⟩:=nodup4 hN
    have hk0:kd%3=0:=beq_iff_eq.1 h7
    have hO:=one1 (d:=(sd,kd,tk,fr,to,n)) Tryz.entOK138 Tryz.entOK143 hN hP hs (act_mint Tryz.numk138 Tryz.numk143 Tryz.ob Tryz.os Tryz.entOK138 Tryz.entOK143 n6 hP.b r_n (wf8 w3).1 (wf8 w4).1 hk0 hy)
    exact ⟨(x5.1,⟨m0,s0,x5.2.1,x5.2.2.1,x5.2.2.2⟩),by rw [num_vI r_n];exact hO,rfl,rfl,rfl,rfl,rfl,rfl,rfl,rfl,rfl,trivial⟩
  refine ⟨fun h9=> ?_,fun h9=> ?_⟩
  · refine rdQ_mk 6 _ (book_Burn_m bb u1 v1 bj m1 s1 L tk fr n (fun x6 h10=> ?_))
    have hy:=h10
    have hs: ¬sd%2=0:=of_decide_eq_false h1
    obtain ⟨n1,_,_,_,_,n6⟩:=nodup4 hN
    have hk0: ¬kd%3=0:=beq_eq_false_iff_ne.1 h7
    have hk1:kd%3=1:=beq_iff_eq.1 h9
    have hO:=one1 (d:=(sd,kd,tk,fr,to,n)) Tryz.entOK138 Tryz.entOK143 hN hP hs (act_burn Tryz.numk138 Tryz.numk143 Tryz.ob Tryz.os Tryz.entOK138 Tryz.entOK143 n6 hP.b r_n (wf8 w3).1 (wf8 w4).1 hk0 hk1 hy)
    exact ⟨(x6.1,⟨m0,s0,x6.2.1,x6.2.2.1,x6.2.2.2⟩),by rw [num_vI r_n];exact hO,rfl,rfl,rfl,rfl,rfl,rfl,rfl,rfl,rfl,trivial⟩
  refine rdQ_mk 7 _ (book_Move_m bb u1 v1 bj m1 s1 L tk fr to n (fun x7 h11=> ?_))
  have hy:=h11
  have hs: ¬sd%2=0:=of_decide_eq_false h1
  obtain ⟨n1,_,_,_,_,n6⟩:=nodup4 hN
  have hk0: ¬kd%3=0:=beq_eq_false_iff_ne.1 h7
  have hk1: ¬kd%3=1:=beq_eq_false_iff_ne.1 h9
  have hO:=one1 (d:=(sd,kd,tk,fr,to,n)) Tryz.entOK138 Tryz.entOK143 hN hP hs (act_move Tryz.numk138 Tryz.numk143 Tryz.ob Tryz.entOK138 Tryz.entOK143 n6 hP.b r_n (wf8 w3).1 (wf8 w4).1 (wf8 w5).1 hk0 hk1 hy)
  exact ⟨(x7.1,⟨m0,s0,x7.2.1,x7.2.2.1,x7.2.2.2⟩),by rw [num_vI r_n];exact hO,rfl,rfl,rfl,rfl,rfl,rfl,rfl,rfl,rfl,trivial⟩
noncomputable def pk_RawR_C:List Value->List Slot->Ctr:=fun vs hs=>⟨Row,fun zx=> .pointer (some ⟨(vblk (varg vs 1)),0,none⟩),fun zx=> [.blk (vblk (varg vs 1)) (.cells #[sv zx] 83 (0,0)),(ss 5 zx),(sarg hs 2)],fun zx=>BOK zx/\(dg zx).length=((rdv (scell (sarg hs 0) 0) (sarg hs 1))).length+((rdv (varg vs 2) (sarg hs 2))).length/\dg zx=(rdv (scell (sarg hs 0) 0) (sarg hs 1))++(rdv (varg vs 2) (sarg hs 2))⟩
abbrev pk_RawR_Q (bw:Nat) (r y:Row) (zv:Value) (zs0:Slot) (zs1:Slot) (zs2:Slot):Prop:= ∃zx:Row,(BOK zx/\(dg zx).length=((rdv (sv r) (ss 5 r))).length+((rdv (sv y) (ss 5 y))).length/\dg zx=(rdv (sv r) (ss 5 r))++(rdv (sv y) (ss 5 y)))/\zv=pp bw 0/\zs0=bk bw #[sv zx] 83/\zs1=(ss 5 zx)/\zs2=(ss 5 y)/\True
abbrev pk_RawR_A (bw:Nat) (r y:Row) (zF:SF Row):Prop:=zF #[pp bw 0,sv y] [bk bw #[sv r] 83,(ss 5 r),(ss 5 y)] (fun zx=>pp bw 0) (fun zx=> [bk bw #[sv zx] 83,(ss 5 zx),(ss 5 y)]) (fun zx=>(BOK zx/\(dg zx).length=((rdv (sv r) (ss 5 r))).length+((rdv (sv y) (ss 5 y))).length/\dg zx=(rdv (sv r) (ss 5 r))++(rdv (sv y) (ss 5 y))))
set_option maxRecDepth 100000 in
theorem pk_RawR_vc (bw:Nat) (r y:Row):pk_RawR_A bw r y (fun za zh zv zu zp=>codeW Tryz.prog 15 none 2000 none (bodyOf Tryz.f36) (.reg [S0] (.reg [S0,S0,S0,S0, .sem [.rd 0],S0, .specw [1,2] [1,2] (F_appN 5),S0,S0, .specw [0] [0] F_put] (.reg [S0,S0] (.done))))
    (init za zh) (finW Tryz.prog Tryz.f36 [] [0,1,2] (X:=Row) zv zu zp))=
    (rdQ 1 bw (opQ Tryz.prog (vS (Builtin.append_ #[52,52] 52 #[sv r,sv y])) [(ss 5 r),(ss 5 y)] Row (fun zx=>sv zx) (fun zx=> [(ss 5 zx),(ss 5 y)]) (fun zx=>vals zx=rvals (sv r) (ss 5 r)++srcv (sv y) (ss 5 y)) (fun x1=>opQ Tryz.prog (skS (Instr.storeAt 52 (pp bw 0) (sv x1))) [bk bw #[sv r] 83] Unit (fun _=> .tuple #[]) (fun _=> [bk bw #[sv x1] 83]) (fun _=>True) (fun _=>pk_RawR_Q bw r y (pp bw 0) (bk bw #[sv x1] 83) (ss 5 x1) (ss 5 y))))):=by kernel_rfl
set_option maxRecDepth 100000 in
theorem pk_RawR (bw:Nat) (r y:Row) (r_r:BOK r) (r_y:BOK y) (hr:(dg r).length<=6000) (hy:(dg y).length<=6000):pk_RawR_A bw r y (fun za zh zv zu zp=>CallT Tryz.prog 36 za zh Row zv zu zp):=by
  refine call_of (c:=bodyOf Tryz.f36) (n:=15) (fn:=Tryz.f36) Tryz.mixed Tryz.func36 (by kernel_rfl) (by kernel_rfl) (by kernel_rfl) 2000 _ [] [0,1,2] rfl rfl (Eq.mpr (pk_RawR_vc bw r y) ?_)
  have d_r:=rdv_eq r 5
  have d_y:=rdv_eq y 5
  have e_r:=vlen_dg r
  have e_y:=vlen_dg y
  refine rdQ_mk 1 _ (opQ_mk (xappRow Tryz.sl52 52 r (by rw [vals_len];first | omega | decide | exact Nat.le_of_ble_eq_true rfl) y (by rw [vals_len];omega) (by rw [(show BOK y by assumption).eq];exact bv_one _)) (wit_appN _) fun x1 h1=> ?_)
  rw [rvals_eq,srcv_row,(show BOK y by assumption).eq] at h1
  obtain ⟨hBh1,hNh1,hDh1⟩:=bok_app (by assumption) h1
  refine opQ_mk (xputv (b:=bw) (cs:= #[sv r]) (ty:=83) (te:=52) (fun w=>by kernel_rfl) 0 (sv x1) (cells_sv _) (one_sv _) (by show 0<1;decide)) (⟨(),trivial⟩) fun _ _=> ?_
  unfold pk_RawR_Q
  rw [d_r,d_y]
  exact ⟨x1,⟨by assumption,by first | omega | (rw [hDh1,List.length_append]),by rw [hDh1]⟩,rfl,rfl,rfl,rfl,trivial⟩
abbrev pk_RawR_K (bw:Nat) (r y:Row) (KK:Row->Prop):Prop:=pk_RawR_A bw r y (fun za zh zv zu zp=>callQ Tryz.prog 36 za zh Row zv zu zp KK)
theorem pk_RawR_m (bw:Nat) (r y:Row) {KK:Row->Prop} (kont: ∀zx:Row,(BOK zx/\(dg zx).length=((dg r)).length+((dg y)).length/\dg zx=(dg r)++(dg y))->KK zx) (r_r:BOK r:=by assumption) (r_y:BOK y:=by assumption) (hr:(dg r).length<=6000:=by first | omega | decide) (hy:(dg y).length<=6000:=by first | omega | decide):pk_RawR_K bw r y KK:=callQ_mk (pk_RawR bw r y r_r r_y hr hy) (wit_bok rfl) fun zx hz=>by
  simp only [rdv_eq,rdv_nil] at hz
  exact kont zx hz
noncomputable def pair_Bytes_C:List Value->List Slot->Ctr:=fun vs hs=>⟨Row,fun zx=>sv zx,fun zx=> [.blk (vblk (varg vs 1)) (.cells #[.pointer (some ⟨(vblk (scell (sarg hs 0) 0)),0,none⟩), .pointer (some ⟨(vblk (scell (sarg hs 0) 1)),0,none⟩), .pointer (some ⟨(vblk (scell (sarg hs 0) 2)),0,none⟩), .pointer (some ⟨(vblk (scell (sarg hs 0) 3)),0,none⟩)] 70 (0,0)), .blk (vblk (scell (sarg hs 0) 1)) (.cells #[.pointer (some ⟨(vblk (scell (sarg hs 1) 0)),0,none⟩), .pointer (some ⟨(vblk (scell (sarg hs 1) 1)),0,none⟩)] 104 (0,0)), .blk (vblk (scell (sarg hs 0) 2)) (.cells #[.pointer (some ⟨(vblk (scell (sarg hs 2) 0)),0,none⟩), .pointer (some ⟨(vblk (scell (sarg hs 2) 1)),0,none⟩)] 104 (0,0)),(mS Tryz.mk138 (vblk (scell (sarg hs 1) 0)) (vblk (scell (sarg hs 0) 0)) (skv (sarg hs 3))),(mS Tryz.mk138 (vblk (scell (sarg hs 2) 0)) (vblk (scell (sarg hs 0) 0)) (skv (sarg hs 4))),(mS Tryz.mk107 (vblk (scell (sarg hs 0) 3)) (vblk (scell (sarg hs 0) 0)) (skv (sarg hs 5))),(ss 5 zx)],fun zx=>BOK zx/\dg zx=pT (tabM (skv (sarg hs 3)),tabM (skv (sarg hs 4))) (nzOf (skv (sarg hs 5)))⟩
abbrev pair_Bytes_Q (bp bj ba bb bn u0 v0 u1 v1:Nat) (m0 m1 mn:KV) (zv:Value) (zs0:Slot) (zs1:Slot) (zs2:Slot) (zs3:Slot) (zs4:Slot) (zs5:Slot) (zs6:Slot):Prop:= ∃zx:Row,(BOK zx/\dg zx=pT (tabM m0,tabM m1) (nzOf mn))/\zv=sv zx/\zs0=bk bp #[pp bj 0,pp ba 0,pp bb 0,pp bn 0] 70/\zs1=bk ba #[pp u0 0,pp v0 0] 104/\zs2=bk bb #[pp u1 0,pp v1 0] 104/\zs3=(mS Tryz.mk138 u0 bj m0)/\zs4=(mS Tryz.mk138 u1 bj m1)/\zs5=(mS Tryz.mk107 bn bj mn)/\zs6=(ss 5 zx)/\True
abbrev pair_Bytes_A (bp bj ba bb bn u0 v0 u1 v1:Nat) (m0 m1 mn:KV) (zF:SF Row):Prop:=zF #[pp bp 0] [bk bp #[pp bj 0,pp ba 0,pp bb 0,pp bn 0] 70,bk ba #[pp u0 0,pp v0 0] 104,bk bb #[pp u1 0,pp v1 0] 104,(mS Tryz.mk138 u0 bj m0),(mS Tryz.mk138 u1 bj m1),(mS Tryz.mk107 bn bj mn)] (fun zx=>sv zx) (fun zx=> [bk bp #[pp bj 0,pp ba 0,pp bb 0,pp bn 0] 70,bk ba #[pp u0 0,pp v0 0] 104,bk bb #[pp u1 0,pp v1 0] 104,(mS Tryz.mk138 u0 bj m0),(mS Tryz.mk138 u1 bj m1),(mS Tryz.mk107 bn bj mn),(ss 5 zx)]) (fun zx=>(BOK zx/\dg zx=pT (tabM m0,tabM m1) (nzOf mn)))
set_option maxRecDepth 100000 in
set_option maxHeartbeats 2000000 in
theorem pair_Bytes_vc (bp bj ba bb bn u0 v0 u1 v1:Nat) (m0 m1 mn:KV):pair_Bytes_A bp bj ba bb bn u0 v0 u1 v1 m0 m1 mn (fun za zh zv zu zp=>codeW Tryz.prog 39 none 2000 none (bodyOf Tryz.f13) (.reg [S0] (.reg [S0, .sem [.nw 40],S0] (.reg [S0,S0,S0, .sem [.rd 0, .rd 0],S0] (.reg [S0] (.condT (.reg [S0,S0] (.reg [S0, .callw [1,3] [1,3,42] book_Bytes_C,S0] (.reg [S0,S0, .eq (f_len),S0,S0, .callw [40,7] [40,41] pk_U32_C,S0, .callw [40,41,42] [40,41,42] pk_RawR_C] (.reg [S0,S0] (.reg [S0] (.condT (.reg [S0,S0] (.reg [S0, .callw [2,4] [2,4,42] book_Bytes_C,S0] (.reg [S0,S0, .eq (f_len),S0,S0, .callw [40,41] [40,41] pk_U32_C,S0, .callw [40,41,42] [40,41,42] pk_RawR_C] (.reg [S0,S0] (.reg [S0] (.condF (.reg [S0] (.inv (Nat×Row×Nat) (fun zx=> [(0,pp bp 0),(3,pp zx.2.2 0),(28, .int .u8 ((zx.1:Nat):Int))]) (fun zx=> [(0,bk bp #[pp bj 0,pp ba 0,pp bb 0,pp bn 0] 70),(1,bk ba #[pp u0 0,pp v0 0] 104),(2,bk bb #[pp u1 0,pp v1 0] 104),(3,(mS Tryz.mk138 u0 bj m0)),(4,(mS Tryz.mk138 u1 bj m1)),(5,(mS Tryz.mk107 bn bj mn)),(40,bk zx.2.2 #[sv zx.2.1] 83),(41,(ss 5 zx.2.1))]) (fun zx=>zx.1<=16/\BOK zx.2.1/\dg zx.2.1=(bkT (tabM m0)++bkT (tabM m1))++nzB (nzOf mn) zx.1) (fun zx=>16 - zx.1) (fun x8=> .reg [S0] (.cond (.reg [S0,S0] (.reg [S0,S0,S0, .callr [0,5] pair_Nonce_C, .callw [40,41] [40,41] pk_U64_C] (.reg [.gen [] (fun vs=>Sx.one (.int .u8 (ci (varg vs 0)+ci (varg vs 1))) vs),S0] (.done)))) (.reg [S0, .callw [40,41] [40,41,43] pk_Bytes_C,S0] (.done)))))))))))))))))))))))
    (init za zh) (finW Tryz.prog Tryz.f13 [] [0,1,2,3,4,5,43] (X:=Row) zv zu zp))=
    (∀b1:Nat,rdQ 2 bp ((true=true)/\book_Bytes_K ba u0 v0 bj m0 (fun x2=>(PureRun Tryz.prog (vS (Builtin.len_ #[52] 3 #[sv x2])) (.int .i64 ((vlen (sv x2):Nat):Int)))/\pk_U32_K b1 Row.nil (IntKind.u32.wrap (IntKind.i64.wrap (Int.tdiv ((vlen (sv x2):Nat):Int) 34))) (fun x3=>pk_RawR_K b1 x3 x2 (fun x4=>(true=true)/\book_Bytes_K bb u1 v1 bj m1 (fun x5=>(PureRun Tryz.prog (vS (Builtin.len_ #[52] 3 #[sv x5])) (.int .i64 ((vlen (sv x5):Nat):Int)))/\pk_U32_K b1 x4 (IntKind.u32.wrap (IntKind.i64.wrap (Int.tdiv ((vlen (sv x5):Nat):Int) 34))) (fun x6=>pk_RawR_K b1 x6 x5 (fun x7=>(false=false)/\(∃zx:Nat×Row×Nat,(zx.1<=16/\BOK zx.2.1/\dg zx.2.1=(bkT (tabM m0)++bkT (tabM m1))++nzB (nzOf mn) zx.1)/\pp bp 0=pp bp 0/\pp b1 0=pp zx.2.2 0/\Value.int .u8 0= .int .u8 ((zx.1:Nat):Int)/\bk bp #[pp bj 0,pp ba 0,pp bb 0,pp bn 0] 70=bk bp #[pp bj 0,pp ba 0,pp bb 0,pp bn 0] 70/\bk ba #[pp u0 0,pp v0 0] 104=bk ba #[pp u0 0,pp v0 0] 104/\bk bb #[pp u1 0,pp v1 0] 104=bk bb #[pp u1 0,pp v1 0] 104/\(mS Tryz.mk138 u0 bj m0)=(mS Tryz.mk138 u0 bj m0)/\(mS Tryz.mk138 u1 bj m1)=(mS Tryz.mk138 u1 bj m1)/\(mS Tryz.mk107 bn bj mn)=(mS Tryz.mk107 bn bj mn)/\bk b1 #[sv x7] 83=bk zx.2.2 #[sv zx.2.1] 83/\(ss 5 x7)=(ss 5 zx.2.1)/\True)/\ ∀x8:Nat×Row×Nat,∀jx8:Nat->Value,(x8.1<=16/\BOK x8.2.1/\dg x8.2.1=(bkT (tabM m0)++bkT (tabM m1))++nzB (nzOf mn) x8.1)->((decide (((x8.1:Nat):Int)<(16:Int)))=true->pair_Nonce_K bp bj ba bb bn mn ((x8.1:Nat):Int) (fun x9=>pk_U64_K x8.2.2 x8.2.1 x9 (fun x10=>(∃_:Unit,True/\Value.int .u8 (IntKind.u8.wrap (((x8.1:Nat):Int)+1))= .int .u8 (((x8.1:Nat):Int)+1))/\ ∀_:Unit,(True)-> ∃zy:Nat×Row×Nat,(zy.1<=16/\BOK zy.2.1/\dg zy.2.1=(bkT (tabM m0)++bkT (tabM m1))++nzB (nzOf mn) zy.1)/\16 - zy.1<16 - x8.1/\pp bp 0=pp bp 0/\pp x8.2.2 0=pp zy.2.2 0/\Value.int .u8 (((x8.1:Nat):Int)+1)= .int .u8 ((zy.1:Nat):Int)/\bk bp #[pp bj 0,pp ba 0,pp bb 0,pp bn 0] 70=bk bp #[pp bj 0,pp ba 0,pp bb 0,pp bn 0] 70/\bk ba #[pp u0 0,pp v0 0] 104=bk ba #[pp u0 0,pp v0 0] 104/\bk bb #[pp u1 0,pp v1 0] 104=bk bb #[pp u1 0,pp v1 0] 104/\(mS Tryz.mk138 u0 bj m0)=(mS Tryz.mk138 u0 bj m0)/\(mS Tryz.mk138 u1 bj m1)=(mS Tryz.mk138 u1 bj m1)/\(mS Tryz.mk107 bn bj mn)=(mS Tryz.mk107 bn bj mn)/\bk x8.2.2 #[sv x10] 83=bk zy.2.2 #[sv zy.2.1] 83/\(ss 5 x10)=(ss 5 zy.2.1)/\True)))/\((decide (((x8.1:Nat):Int)<(16:Int)))=false->pk_Bytes_K x8.2.2 x8.2.1 (fun x11=>pair_Bytes_Q bp bj ba bb bn u0 v0 u1 v1 m0 m1 mn (sv x11) (bk bp #[pp bj 0,pp ba 0,pp bb 0,pp bn 0] 70) (bk ba #[pp u0 0,pp v0 0] 104) (bk bb #[pp u1 0,pp v1 0] 104) (mS Tryz.mk138 u0 bj m0) (mS Tryz.mk138 u1 bj m1) (mS Tryz.mk107 bn bj mn) (ss 5 x11))))))))))):=by kernel_rfl
set_option maxRecDepth 100000 in
set_option maxHeartbeats 2000000 in
theorem pair_Bytes (bp bj ba bb bn u0 v0 u1 v1:Nat) (m0 m1 mn:KV) (h0: ∃s xs,DRT Tryz.mk138 Tryz.mk143 m0 s xs) (h1: ∃s xs,DRT Tryz.mk138 Tryz.mk143 m1 s xs) (hZ:NZ mn (nzOf mn)):pair_Bytes_A bp bj ba bb bn u0 v0 u1 v1 m0 m1 mn (fun za zh zv zu zp=>CallT Tryz.prog 13 za zh Row zv zu zp):=by
  refine call_of (c:=bodyOf Tryz.f13) (n:=39) (fn:=Tryz.f13) Tryz.mixed Tryz.func13 (by kernel_rfl) (by kernel_rfl) (by kernel_rfl) 2000 _ [] [0,1,2,3,4,5,43] rfl rfl (Eq.mpr (pair_Bytes_vc bp bj ba bb bn u0 v0 u1 v1 m0 m1 mn) ?_)
  obtain ⟨s0,xs0,d0⟩:=h0
  obtain ⟨s1,xs1,d1⟩:=h1
  have d0' :=d0.tab
  have d1' :=d1.tab
  have kb0:=d0.kb;have kb1:=d1.kb;have l0_:=d0.len72;have l1_:=d1.len72
  intro b1
  refine rdQ_mk 2 _ ⟨rfl,book_Bytes_m ba u0 v0 bj m0 (fun x2 h1=> ?_)⟩
  obtain ⟨bB0,l0,hK0,hB0⟩:=h1
  rw [d0.text Tryz.numk138 hK0,d0'.symm] at hB0
  have lB0:(dg x2).length<=2448:=by rw [hB0];exact txN_len _ 72
  have vB0:=vlen_dg x2
  refine ⟨xlen Tryz.sl52 3 x2,pk_U32_m b1 Row.nil (IntKind.u32.wrap (IntKind.i64.wrap (Int.tdiv ((vlen (sv x2):Nat):Int) 34))) (fun x3 h2=> ?_) (r_r:=bok_nil)⟩
  obtain ⟨bU0,lU0,hU0⟩:=h2
  have LU0:(dg x3).length<=4:=by (try simp only [show dg Row.nil= [] from rfl,List.length_nil] at lU0);omega
  refine pk_RawR_m b1 x3 x2 (fun x4 h3=> ?_)
  obtain ⟨bR0,lR0,hR0⟩:=h3
  have LR0:(dg x4).length<=2452:=by omega
  refine ⟨rfl,book_Bytes_m bb u1 v1 bj m1 (fun x5 h4=> ?_)⟩
  obtain ⟨bB1,l1,hK1,hB1⟩:=h4
  rw [d1.text Tryz.numk138 hK1,d1'.symm] at hB1
  have lB1:(dg x5).length<=2448:=by rw [hB1];exact txN_len _ 72
  have vB1:=vlen_dg x5
  refine ⟨xlen Tryz.sl52 3 x5,pk_U32_m b1 x4 (IntKind.u32.wrap (IntKind.i64.wrap (Int.tdiv ((vlen (sv x5):Nat):Int) 34))) (fun x6 h5=> ?_)⟩
  obtain ⟨bU1,lU1,hU1⟩:=h5
  have LU1:(dg x6).length<=2456:=by (try simp only [show dg Row.nil= [] from rfl,List.length_nil] at lU1);omega
  refine pk_RawR_m b1 x6 x5 (fun x7 h6=> ?_)
  obtain ⟨bR1,lR1,hR1⟩:=h6
  have LR1:(dg x7).length<=4904:=by omega
  refine ⟨rfl,⟨?_,fun x8 jx8 h7=> ?_⟩⟩
  · have e0:dg x7=(bkT (tabM m0)++bkT (tabM m1)):=by
      rw [hR1,hU1,hR0,hU0,vB0,vB1,hB0,hB1]
      unfold bkT c34
      simp only [show dg Row.nil= [] from rfl,List.append_assoc,List.nil_append]
    exact ⟨(0,x7,b1),⟨Nat.zero_le _,by assumption,by rw [e0];exact (List.append_nil _).symm⟩,rfl,rfl,rfl,rfl,rfl,rfl,rfl,rfl,rfl,rfl,rfl,trivial⟩
  obtain ⟨j16,by_,ey⟩:=h7
  have ly:(dg x8.2.1).length<=5100:=by rw [ey];simp only [List.length_append,nzB_len];have q0:=bkT_len (tabM m0);have q1:=bkT_len (tabM m1);omega
  refine ⟨fun h8=> ?_,fun h8=> ?_⟩
  · refine pair_Nonce_m bp bj ba bb bn mn ((x8.1:Nat):Int) (fun x9 h9=> ?_)
    have hz:=h9
    have k16:x8.1<16:=by (try simp only [decide_eq_true_eq,decide_eq_false_iff_not,gt_iff_lt,ge_iff_le,Int.not_lt,Int.not_le] at *);omega
    have wv:W x9:=by rw [hz.trans (hZ.eq _ k16)];exact hZ.w _
    refine pk_U64_m x8.2.2 x8.2.1 x9 (fun x10 h10=> ?_)
    obtain ⟨bW,lW,hW⟩:=h10
    refine ⟨⟨(),trivial,congrArg (Value.int .u8) (wrap_u8 _ (by omega) (by omega))⟩,fun _=>fun _=> ?_⟩
    have hv:x9=(nzOf mn).getD x8.1 0:=hz.trans (hZ.eq _ k16)
    exact ⟨(x8.1+1,x10,x8.2.2),⟨by (try dsimp only);omega,by assumption,by (try dsimp only);rw [hW,ey,hv,List.append_assoc];rfl⟩,by (try dsimp only);omega,rfl,rfl,congrArg (Value.int .u8) (by (try dsimp only);omega),rfl,rfl,rfl,rfl,rfl,rfl,rfl,rfl,trivial⟩
  refine pk_Bytes_m x8.2.2 x8.2.1 (fun x11 h11=> ?_)
  obtain ⟨bF,lF,hF⟩:=h11
  unfold pair_Bytes_Q
  have i16:x8.1=16:=by (try simp only [decide_eq_true_eq,decide_eq_false_iff_not,gt_iff_lt,ge_iff_le,Int.not_lt,Int.not_le] at *);omega
  rw [i16] at ey
  exact ⟨x11,⟨by assumption,by rw [hF,ey];rfl⟩,rfl,rfl,rfl,rfl,rfl,rfl,rfl,rfl,trivial⟩
theorem Tryz.sl92:SlT Tryz.prog 92 3 (.int .i64 0):=SlT.of (by kernel_rfl) (by kernel_rfl) (by kernel_rfl) (by kernel_rfl) rfl
theorem Tryz.agg3: ∀w,(isAgg 3).run Tryz.prog w= .ok false w:=fun w=>by kernel_rfl
def ref1_at_C:List Value->List Slot->Ctr:=fun vs hs=>⟨Int,fun zx=> .int .i64 zx,fun _=>hs,fun zx=>zx=dgt (rdv (varg vs 1) (sarg hs 0)) (ci (varg vs 2)).toNat⟩
abbrev ref1_at_Q (a:Row) (i:Int) (zv:Value) (zs0:Slot):Prop:= ∃zx:Int,(zx=dgt (rdv (sv a) (ss 3 a)) i.toNat)/\zv= .int .i64 zx/\zs0=(ss 3 a)/\True
abbrev ref1_at_A (a:Row) (i:Int) (zF:SF Int):Prop:=zF #[sv a, .int .i64 i] [(ss 3 a)] (fun zx=> .int .i64 zx) (fun zx=> [(ss 3 a)]) (fun zx=>(zx=dgt (rdv (sv a) (ss 3 a)) i.toNat))
set_option maxRecDepth 100000 in
theorem ref1_at_vc (a:Row) (i:Int):ref1_at_A a i (fun za zh zv zu zp=>codeW Tryz.prog 13 none 2000 none (bodyOf Tryz.f71) (.reg [S0] (.reg [S0,S0, .eq (f_len),S0] (.cond (.reg [S0,S0, .eq (f_idx), .specr [0] F_get,S0] (.done)) (.reg [S0] (.done)))))
    (init za zh) (finW Tryz.prog Tryz.f71 [] [0] (X:=Int) zv zu zp))=
    ((PureRun Tryz.prog (vS (Builtin.len_ #[92] 3 #[sv a])) (.int .i64 ((vlen (sv a):Nat):Int)))/\((decide (i<((vlen (sv a):Nat):Int)))=true->(PureRun Tryz.prog (vS (Instr.indexAt 92 (sv a) (.int .i64 i))) (.pointer (some ⟨(vblk (sv a)),(Int.toNat i),none⟩)))/\opQr Tryz.prog (vS (Instr.loadAt 3 (.pointer (some ⟨(vblk (sv a)),(Int.toNat i),none⟩)))) [(ss 3 a)] Int (fun zx=> .int .i64 zx) (fun zx=>(scells (ss 3 a))[(Int.toNat i)]? =some (.int .i64 zx)) (fun x1=>ref1_at_Q a i (Value.int .i64 x1) (ss 3 a)))/\((decide (i<((vlen (sv a):Nat):Int)))=false->ref1_at_Q a i (Value.int .i64 0) (ss 3 a))):=by kernel_rfl
set_option maxRecDepth 100000 in
theorem ref1_at (a:Row) (i:Int) (r_a:RowOK a) (hi:0<=i):ref1_at_A a i (fun za zh zv zu zp=>CallT Tryz.prog 71 za zh Int zv zu zp):=by
  refine call_of (c:=bodyOf Tryz.f71) (n:=13) (fn:=Tryz.f71) Tryz.mixed Tryz.func71 (by kernel_rfl) (by kernel_rfl) (by kernel_rfl) 2000 _ [] [0] rfl rfl (Eq.mpr (ref1_at_vc a i) ?_)
  have d_a:=rdv_eq a 3
  have e_a:=vlen_dg a
  refine ⟨xlen Tryz.sl92 3 a,⟨fun h1=> ?_,fun h1=> ?_⟩⟩
  · refine ⟨xidx Tryz.sl92 a .i64 i hi (by rw [←vlen_sv];exact of_decide_eq_true (by assumption)),opQr_mk (xgetR (e:=3) a 3 Tryz.agg3 (Int.toNat i) r_a (by rw [←vlen_dg];have:=of_decide_eq_true ‹_›;omega)) (wit_get (e:=3) a (Int.toNat i) r_a (by rw [←vlen_dg];have:=of_decide_eq_true ‹_›;omega)) fun x1 h2=> ?_⟩
    replace h2:=getR (e:=3) a (Int.toNat i) r_a (by rw [←vlen_dg];have:=of_decide_eq_true ‹_›;omega) h2
    exact ⟨_,by rw [d_a];assumption,rfl,rfl,trivial⟩
  exact ⟨0,by rw [d_a];exact (dgt_out (by have:=of_decide_eq_false ‹_›;omega)).symm,rfl,rfl,trivial⟩
abbrev ref1_at_K (a:Row) (i:Int) (KK:Int->Prop):Prop:=ref1_at_A a i (fun za zh zv zu zp=>callQr Tryz.prog 71 za zh Int zv zp KK)
theorem ref1_at_m (a:Row) (i:Int) {KK:Int->Prop} (kont: ∀zx:Int,(zx=dgt (dg a) i.toNat)->KK zx) (r_a:RowOK a:=by first | assumption | exact rowOK_lit _ _ (by decide)) (hi:0<=i:=by omega):ref1_at_K a i KK:=callQr_mk (ref1_at a i r_a hi) (⟨_,rfl⟩) fun zx hz=>by
  simp only [rdv_eq] at hz
  exact kont zx hz
def ref1_Trim_C:List Value->List Slot->Ctr:=fun vs hs=>⟨Row,fun zx=>sv zx,fun zx=> [(ss 3 zx)],fun zx=>RowOK zx/\ss 3 zx=(sarg hs 0)/\TrimR (rdv (varg vs 1) (sarg hs 0)) (dg zx)⟩
abbrev ref1_Trim_Q (a:Row) (zv:Value) (zs0:Slot):Prop:= ∃zx:Row,(RowOK zx/\ss 3 zx=(ss 3 a)/\TrimR (rdv (sv a) (ss 3 a)) (dg zx))/\zv=sv zx/\zs0=(ss 3 zx)/\True
abbrev ref1_Trim_A (a:Row) (zF:SF Row):Prop:=zF #[sv a] [(ss 3 a)] (fun zx=>sv zx) (fun zx=> [(ss 3 zx)]) (fun zx=>(RowOK zx/\ss 3 zx=(ss 3 a)/\TrimR (rdv (sv a) (ss 3 a)) (dg zx)))
set_option maxRecDepth 100000 in
theorem ref1_Trim_vc (a:Row):ref1_Trim_A a (fun za zh zv zu zp=>codeW Tryz.prog 21 none 2000 none (bodyOf Tryz.f72) (.reg [S0] (.reg [S0, .eq (f_len),S0] (.inv Nat (fun zx=> [(0,sv a),(3, .int .i64 ((zx:Nat):Int))]) (fun zx=> [(0,(ss 3 a))]) (fun zx=>TrimI (dg a) zx) (fun zx=>zx) (fun x1=> .caseP (fun s=>decide ((ci (s.fr 3))>(0:Int))) (.reg [S0, .gen [] (Sx.one (.bool true)),S0,S0,S0, .gen [] (fun vs=>Sx.one (.int .i64 (ci (varg vs 0) - ci (varg vs 1))) vs), .eq (f_idx), .specr [0] F_get,S0,S0] (.cond (.reg [S0, .gen [] (fun vs=>Sx.one (.int .i64 (ci (varg vs 0) - ci (varg vs 1))) vs),S0] (.done)) (.reg [S0,S0, .eq (f_take),S0] (.done)))) (.reg [S0, .gen [] (Sx.one (.bool false)),S0, .no, .no, .no, .no, .no, .no,S0] (.condF (.reg [S0,S0, .eq (f_take),S0] (.done))))))))
    (init za zh) (finW Tryz.prog Tryz.f72 [] [0] (X:=Row) zv zu zp))=
    ((PureRun Tryz.prog (vS (Builtin.len_ #[92] 3 #[sv a])) (.int .i64 ((vlen (sv a):Nat):Int)))/\(∃zx:Nat,(TrimI (dg a) zx)/\sv a=sv a/\Value.int .i64 ((vlen (sv a):Nat):Int)= .int .i64 ((zx:Nat):Int)/\(ss 3 a)=(ss 3 a)/\True)/\ ∀x1:Nat,∀jx1:Nat->Value,(TrimI (dg a) x1)->((decide (((x1:Nat):Int)>(0:Int)))=true->(∃_:Unit,True/\Value.bool (decide (((x1:Nat):Int)>(0:Int)))= .bool true)/\ ∀_:Unit,(True)->true=true/\true=true/\true=true/\(∃_:Unit,True/\Value.int .i64 (IntKind.i64.wrap (((x1:Nat):Int) - 1))= .int .i64 (((x1:Nat):Int) - 1))/\ ∀_:Unit,(True)->true=true/\(PureRun Tryz.prog (vS (Instr.indexAt 92 (sv a) (.int .i64 (((x1:Nat):Int) - 1)))) (.pointer (some ⟨(vblk (sv a)),(Int.toNat (((x1:Nat):Int) - 1)),none⟩)))/\true=true/\opQr Tryz.prog (vS (Instr.loadAt 3 (.pointer (some ⟨(vblk (sv a)),(Int.toNat (((x1:Nat):Int) - 1)),none⟩)))) [(ss 3 a)] Int (fun zx=> .int .i64 zx) (fun zx=>(scells (ss 3 a))[(Int.toNat (((x1:Nat):Int) - 1))]? =some (.int .i64 zx)) (fun x2=>true=true/\((x2==(0:Int))=true->(∃_:Unit,True/\Value.int .i64 (IntKind.i64.wrap (((x1:Nat):Int) - 1))= .int .i64 (((x1:Nat):Int) - 1))/\ ∀_:Unit,(True)-> ∃zy:Nat,(TrimI (dg a) zy)/\zy<x1/\sv a=sv a/\Value.int .i64 (((x1:Nat):Int) - 1)= .int .i64 ((zy:Nat):Int)/\(ss 3 a)=(ss 3 a)/\True)/\((x2==(0:Int))=false->(PureRun Tryz.prog (vS (Instr.sliceAt 92 (sv a) none (some (.int .i64 ((x1:Nat):Int))) none)) ((vtake (sv a) (Int.toNat ((x1:Nat):Int)))))/\ref1_Trim_Q a ((vtake (sv a) (Int.toNat ((x1:Nat):Int)))) (ss 3 a))))/\((decide (((x1:Nat):Int)>(0:Int)))=false->(∃_:Unit,True/\Value.bool (decide (((x1:Nat):Int)>(0:Int)))= .bool false)/\ ∀_:Unit,(True)->false= !true/\false= !true/\false= !true/\false= !true/\false= !true/\false= !true/\(false=false)/\(PureRun Tryz.prog (vS (Instr.sliceAt 92 (sv a) none (some (.int .i64 ((x1:Nat):Int))) none)) ((vtake (sv a) (Int.toNat ((x1:Nat):Int)))))/\ref1_Trim_Q a ((vtake (sv a) (Int.toNat ((x1:Nat):Int)))) (ss 3 a))):=by kernel_rfl
set_option maxRecDepth 100000 in
theorem ref1_Trim (a : Row) (r_a : RowOK a) (hl : (dg a).length <= 1073741824) : ref1_Trim_A a (fun za zh zv zu zp => CallT Tryz.prog 72 za zh Row zv zu zp) := by
  refine call_of (c:=bodyOf Tryz.f72) (n:=21) (fn:=Tryz.f72) Tryz.mixed Tryz.func72 (by kernel_rfl) (by kernel_rfl) (by kernel_rfl) 2000 _ [] [0] rfl rfl (Eq.mpr (ref1_Trim_vc a) ?_)
  have d_a:=rdv_eq a 3
  have e_a:=vlen_dg a
  refine ⟨xlen Tryz.sl92 3 a,⟨?_,fun x1 jx1 h1=> ?_⟩⟩
  · exact ⟨_,e_a▸trim_start _,rfl,rfl,rfl,trivial⟩
  have L:=h1
  have Ll:=L.le
  refine ⟨fun h2=> ?_,fun h2=> ?_⟩
  · refine ⟨⟨(),trivial,congrArg Value.bool h2⟩,fun _=>fun _=>⟨rfl,rfl,rfl,⟨(),trivial,congrArg (Value.int .i64) (wrap_i64 _ (by simp only [decide_eq_true_eq,decide_eq_false_iff_not,gt_iff_lt,ge_iff_le,beq_iff_eq,beq_eq_false_iff_ne] at *;omega) (by simp only [decide_eq_true_eq,decide_eq_false_iff_not,gt_iff_lt,ge_iff_le,beq_iff_eq,beq_eq_false_iff_ne] at *;omega))⟩,fun _=>fun _=>⟨rfl,xidx Tryz.sl92 a .i64 (((x1:Nat):Int) - 1) (by simp only [decide_eq_true_eq,decide_eq_false_iff_not,gt_iff_lt,ge_iff_le,beq_iff_eq,beq_eq_false_iff_ne] at *;omega) (by rw [←dg_len];simp only [decide_eq_true_eq,decide_eq_false_iff_not,gt_iff_lt,ge_iff_le,beq_iff_eq,beq_eq_false_iff_ne] at *;omega),rfl,opQr_mk (xgetR (e:=3) a 3 Tryz.agg3 (Int.toNat (((x1:Nat):Int) - 1)) r_a (by simp only [decide_eq_true_eq,decide_eq_false_iff_not,gt_iff_lt,ge_iff_le,beq_iff_eq,beq_eq_false_iff_ne] at *;omega)) (wit_get (e:=3) a (Int.toNat (((x1:Nat):Int) - 1)) r_a (by simp only [decide_eq_true_eq,decide_eq_false_iff_not,gt_iff_lt,ge_iff_le,beq_iff_eq,beq_eq_false_iff_ne] at *;omega)) fun x2 h3=> ?_⟩⟩⟩
    replace h3:=getR (e:=3) a (Int.toNat (((x1:Nat):Int) - 1)) r_a (by simp only [decide_eq_true_eq,decide_eq_false_iff_not,gt_iff_lt,ge_iff_le,beq_iff_eq,beq_eq_false_iff_ne] at *;omega) h3
    refine ⟨rfl,⟨fun h4=> ?_,fun h4=> ?_⟩⟩
    · refine ⟨⟨(),trivial,congrArg (Value.int .i64) (wrap_i64 _ (by simp only [decide_eq_true_eq,decide_eq_false_iff_not,gt_iff_lt,ge_iff_le,beq_iff_eq,beq_eq_false_iff_ne] at *;omega) (by simp only [decide_eq_true_eq,decide_eq_false_iff_not,gt_iff_lt,ge_iff_le,beq_iff_eq,beq_eq_false_iff_ne] at *;omega))⟩,fun _=>fun _=> ?_⟩
      have hd:dgt (dg a) (x1 - 1)=0:=by
        simp only [decide_eq_true_eq,decide_eq_false_iff_not,gt_iff_lt,ge_iff_le,beq_iff_eq,beq_eq_false_iff_ne] at *
        have e1:Int.toNat (((x1:Nat):Int) - 1)=x1 - 1:=by omega
        simp_all
      exact ⟨x1 - 1,trim_step L (by simp only [decide_eq_true_eq,decide_eq_false_iff_not,gt_iff_lt,ge_iff_le,beq_iff_eq,beq_eq_false_iff_ne] at *;omega) hd,(by simp only [decide_eq_true_eq,decide_eq_false_iff_not,gt_iff_lt,ge_iff_le,beq_iff_eq,beq_eq_false_iff_ne] at *;omega),rfl,congrArg (Value.int .i64) (by simp only [decide_eq_true_eq,decide_eq_false_iff_not,gt_iff_lt,ge_iff_le,beq_iff_eq,beq_eq_false_iff_ne] at *;omega),rfl,trivial⟩
    refine ⟨xtake Tryz.sl92 a .i64 ((x1:Nat):Int) (by omega) (by rw [←dg_len];omega),⟨a.take x1,⟨(r_a.take _).1,ss_take _ _ _,?_⟩,vtake_sv a _ (by rw [←dg_len];exact L.le),(ss_take _ _ _).symm,trivial⟩⟩
    rw [d_a,(r_a.take _).2]
    refine trim_end L ?_
    simp only [decide_eq_true_eq,decide_eq_false_iff_not,gt_iff_lt,ge_iff_le,beq_iff_eq,beq_eq_false_iff_ne] at *
    first | exact .inl (by omega) | exact .inr (by rename_i hne;intro h0;simp_all) | exact .inr (by intro h0;simp_all)
  refine ⟨⟨(),trivial,congrArg Value.bool h2⟩,fun _=>fun _=>⟨rfl,rfl,rfl,rfl,rfl,rfl,⟨rfl,⟨xtake Tryz.sl92 a .i64 ((x1:Nat):Int) (by omega) (by rw [←dg_len];omega),⟨a.take x1,⟨(r_a.take _).1,ss_take _ _ _,?_⟩,vtake_sv a _ (by rw [←dg_len];exact L.le),(ss_take _ _ _).symm,trivial⟩⟩⟩⟩⟩
  rw [d_a,(r_a.take _).2]
  refine trim_end L ?_
  simp only [decide_eq_true_eq,decide_eq_false_iff_not,gt_iff_lt,ge_iff_le,beq_iff_eq,beq_eq_false_iff_ne] at *
  first | exact .inl (by omega) | exact .inr (by rename_i hne;intro h0;simp_all) | exact .inr (by intro h0;simp_all)
abbrev ref1_Trim_K (a:Row) (KK:Row->Prop):Prop:=ref1_Trim_A a (fun za zh zv zu zp=>callQ Tryz.prog 72 za zh Row zv zu zp KK)
theorem ref1_Trim_m (a:Row) {KK:Row->Prop} (kont: ∀zx:Row,RowOK zx->(ss 3 zx=(ss 3 a)/\TrimR (dg a) (dg zx))->KK zx) (r_a:RowOK a:=by first | assumption | exact rowOK_lit _ _ (by decide)) (hl:(dg a).length<=1073741824:=by omega):ref1_Trim_K a KK:=callQ_mk (ref1_Trim a r_a hl) (wit_trim a (r_a)) fun zx hz=>by
  simp only [rdv_eq] at hz
  obtain ⟨rhz_,hz⟩:=hz
  exact kont zx rhz_ hz
def ref1_Cmp_C:List Value->List Slot->Ctr:=fun vs hs=>⟨Int,fun zx=> .int .i64 zx,fun _=>hs,fun zx=>zx=hCmp (nv (rdv (varg vs 1) (sarg hs 0))) (nv (rdv (varg vs 2) (sarg hs 1)))⟩
abbrev ref1_Cmp_Q (a b:Row) (zv:Value) (zs0:Slot) (zs1:Slot):Prop:= ∃zx:Int,(zx=hCmp (nv (rdv (sv a) (ss 3 a))) (nv (rdv (sv b) (ss 3 b))))/\zv= .int .i64 zx/\zs0=(ss 3 a)/\zs1=(ss 3 b)/\True
abbrev ref1_Cmp_A (a b:Row) (zF:SF Int):Prop:=zF #[sv a,sv b] [(ss 3 a),(ss 3 b)] (fun zx=> .int .i64 zx) (fun zx=> [(ss 3 a),(ss 3 b)]) (fun zx=>(zx=hCmp (nv (rdv (sv a) (ss 3 a))) (nv (rdv (sv b) (ss 3 b)))))
set_option maxRecDepth 100000 in
theorem ref1_Cmp_vc (a b:Row):ref1_Cmp_A a b (fun za zh zv zu zp=>codeW Tryz.prog 30 none 2000 none (bodyOf Tryz.f42) (.reg [S0] (.reg [S0, .eq (f_len),S0, .eq (f_len),S0, .gen [] (fun vs=>Sx.one (.int .i64 (ci (varg vs 0) - ci (varg vs 1))) vs),S0] (.inv Nat (fun zx=> [(0,sv a),(1,sv b),(5, .int .i64 (((zx:Nat):Int) - 1))]) (fun zx=> [(0,(ss 3 a)),(1,(ss 3 b))]) (fun zx=>CmpI (dg a) (dg b) zx) (fun zx=>zx) (fun x1=> .reg [S0,S0] (.cond (.reg [S0,S0, .callr [0] ref1_at_C,S0,S0, .callr [1] ref1_at_C,S0] (.cond (.reg [S0] (.done)) (.reg [S0,S0, .callr [0] ref1_at_C,S0,S0, .callr [1] ref1_at_C,S0] (.cond (.reg [S0] (.done)) (.reg [S0, .gen [] (fun vs=>Sx.one (.int .i64 (ci (varg vs 0) - ci (varg vs 1))) vs),S0] (.done)))))) (.reg [S0] (.done)))))))
    (init za zh) (finW Tryz.prog Tryz.f42 [] [0,1] (X:=Int) zv zu zp))=
    ((PureRun Tryz.prog (vS (Builtin.len_ #[92] 3 #[sv a])) (.int .i64 ((vlen (sv a):Nat):Int)))/\(PureRun Tryz.prog (vS (Builtin.len_ #[92] 3 #[sv b])) (.int .i64 ((vlen (sv b):Nat):Int)))/\(∃_:Unit,True/\Value.int .i64 (IntKind.i64.wrap ((if ((vlen (sv b):Nat):Int)>((vlen (sv a):Nat):Int) then ((vlen (sv b):Nat):Int) else ((vlen (sv a):Nat):Int)) - 1))= .int .i64 ((if ((vlen (sv b):Nat):Int)>((vlen (sv a):Nat):Int) then ((vlen (sv b):Nat):Int) else ((vlen (sv a):Nat):Int)) - 1))/\ ∀_:Unit,(True)->(∃zx:Nat,(CmpI (dg a) (dg b) zx)/\sv a=sv a/\sv b=sv b/\Value.int .i64 ((if ((vlen (sv b):Nat):Int)>((vlen (sv a):Nat):Int) then ((vlen (sv b):Nat):Int) else ((vlen (sv a):Nat):Int)) - 1)= .int .i64 (((zx:Nat):Int) - 1)/\(ss 3 a)=(ss 3 a)/\(ss 3 b)=(ss 3 b)/\True)/\ ∀x1:Nat,∀jx1:Nat->Value,(CmpI (dg a) (dg b) x1)->((decide ((((x1:Nat):Int) - 1)≥(0:Int)))=true->ref1_at_K a (((x1:Nat):Int) - 1) (fun x2=>ref1_at_K b (((x1:Nat):Int) - 1) (fun x3=>((decide (x2<x3))=true->ref1_Cmp_Q a b (Value.int .i64 (-1)) (ss 3 a) (ss 3 b))/\((decide (x2<x3))=false->ref1_at_K a (((x1:Nat):Int) - 1) (fun x4=>ref1_at_K b (((x1:Nat):Int) - 1) (fun x5=>((decide (x4>x5))=true->ref1_Cmp_Q a b (Value.int .i64 1) (ss 3 a) (ss 3 b))/\((decide (x4>x5))=false->(∃_:Unit,True/\Value.int .i64 (IntKind.i64.wrap ((((x1:Nat):Int) - 1) - 1))= .int .i64 ((((x1:Nat):Int) - 1) - 1))/\ ∀_:Unit,(True)-> ∃zy:Nat,(CmpI (dg a) (dg b) zy)/\zy<x1/\sv a=sv a/\sv b=sv b/\Value.int .i64 ((((x1:Nat):Int) - 1) - 1)= .int .i64 (((zy:Nat):Int) - 1)/\(ss 3 a)=(ss 3 a)/\(ss 3 b)=(ss 3 b)/\True)))))))/\((decide ((((x1:Nat):Int) - 1)≥(0:Int)))=false->ref1_Cmp_Q a b (Value.int .i64 0) (ss 3 a) (ss 3 b))):=by kernel_rfl
set_option maxRecDepth 100000 in
theorem ref1_Cmp (a b : Row) (r_a : RowOK a) (r_b : RowOK b) (la : (dg a).length <= 65536) (lb : (dg b).length <= 65536) : ref1_Cmp_A a b (fun za zh zv zu zp => CallT Tryz.prog 42 za zh Int zv zu zp) := by
  refine call_of (c:=bodyOf Tryz.f42) (n:=30) (fn:=Tryz.f42) Tryz.mixed Tryz.func42 (by kernel_rfl) (by kernel_rfl) (by kernel_rfl) 2000 _ [] [0,1] rfl rfl (Eq.mpr (ref1_Cmp_vc a b) ?_)
  have d_a:=rdv_eq a 3
  have d_b:=rdv_eq b 3
  have e_a:=vlen_dg a
  have e_b:=vlen_dg b
  refine ⟨xlen Tryz.sl92 3 a,xlen Tryz.sl92 3 b,⟨(),trivial,congrArg (Value.int .i64) (wrap_i64 _ (by rw [e_a,e_b];split<;>omega) (by rw [e_a,e_b];split<;>omega))⟩,fun _=>fun _=>⟨?_,fun x1 jx1 h1=> ?_⟩⟩
  · exact ⟨_,cmp_start _ _,rfl,rfl,congrArg (Value.int .i64) (by rw [e_a,e_b];split<;>omega),rfl,rfl,trivial⟩
  have L:=h1
  have Ll:=L.le
  refine ⟨fun h2=> ?_,fun h2=> ?_⟩
  · refine ref1_at_m a (((x1:Nat):Int) - 1) (fun x2 h3=> ?_) (hi:=by simp only [decide_eq_true_eq,decide_eq_false_iff_not,gt_iff_lt,ge_iff_le,beq_iff_eq,beq_eq_false_iff_ne] at *;omega)
    refine ref1_at_m b (((x1:Nat):Int) - 1) (fun x3 h4=> ?_) (hi:=by simp only [decide_eq_true_eq,decide_eq_false_iff_not,gt_iff_lt,ge_iff_le,beq_iff_eq,beq_eq_false_iff_ne] at *;omega)
    refine ⟨fun h5=> ?_,fun h5=> ?_⟩
    · unfold ref1_Cmp_Q
      have et:Int.toNat (((x1:Nat):Int) - 1)=x1 - 1:=by simp only [decide_eq_true_eq,decide_eq_false_iff_not,gt_iff_lt,ge_iff_le,beq_iff_eq,beq_eq_false_iff_ne] at *;omega
      have hd:dgt (dg a) (x1 - 1)<dgt (dg b) (x1 - 1):=by
        simp only [et] at *
        simp only [decide_eq_true_eq,decide_eq_false_iff_not,gt_iff_lt,ge_iff_le,beq_iff_eq,beq_eq_false_iff_ne] at *
        omega
      exact ⟨_,by rw [d_a,d_b];exact hCmp_lt (cmp_lt r_a.dig r_b.dig L (by simp only [decide_eq_true_eq,decide_eq_false_iff_not,gt_iff_lt,ge_iff_le,beq_iff_eq,beq_eq_false_iff_ne] at *;omega) hd),rfl,rfl,rfl,trivial⟩
    refine ref1_at_m a (((x1:Nat):Int) - 1) (fun x4 h6=> ?_) (hi:=by simp only [decide_eq_true_eq,decide_eq_false_iff_not,gt_iff_lt,ge_iff_le,beq_iff_eq,beq_eq_false_iff_ne] at *;omega)
    refine ref1_at_m b (((x1:Nat):Int) - 1) (fun x5 h7=> ?_) (hi:=by simp only [decide_eq_true_eq,decide_eq_false_iff_not,gt_iff_lt,ge_iff_le,beq_iff_eq,beq_eq_false_iff_ne] at *;omega)
    refine ⟨fun h8=> ?_,fun h8=> ?_⟩
    · unfold ref1_Cmp_Q
      have et:Int.toNat (((x1:Nat):Int) - 1)=x1 - 1:=by simp only [decide_eq_true_eq,decide_eq_false_iff_not,gt_iff_lt,ge_iff_le,beq_iff_eq,beq_eq_false_iff_ne] at *;omega
      have hd:dgt (dg a) (x1 - 1)>dgt (dg b) (x1 - 1):=by
        simp only [et] at *
        simp only [decide_eq_true_eq,decide_eq_false_iff_not,gt_iff_lt,ge_iff_le,beq_iff_eq,beq_eq_false_iff_ne] at *
        omega
      exact ⟨_,by rw [d_a,d_b];exact hCmp_gt (cmp_lt r_b.dig r_a.dig L.symm (by simp only [decide_eq_true_eq,decide_eq_false_iff_not,gt_iff_lt,ge_iff_le,beq_iff_eq,beq_eq_false_iff_ne] at *;omega) hd),rfl,rfl,rfl,trivial⟩
    refine ⟨⟨(),trivial,congrArg (Value.int .i64) (wrap_i64 _ (by simp only [decide_eq_true_eq,decide_eq_false_iff_not,gt_iff_lt,ge_iff_le,beq_iff_eq,beq_eq_false_iff_ne] at *;omega) (by simp only [decide_eq_true_eq,decide_eq_false_iff_not,gt_iff_lt,ge_iff_le,beq_iff_eq,beq_eq_false_iff_ne] at *;omega))⟩,fun _=>fun _=> ?_⟩
    have et:Int.toNat (((x1:Nat):Int) - 1)=x1 - 1:=by simp only [decide_eq_true_eq,decide_eq_false_iff_not,gt_iff_lt,ge_iff_le,beq_iff_eq,beq_eq_false_iff_ne] at *;omega
    have hd:dgt (dg a) (x1 - 1)=dgt (dg b) (x1 - 1):=by
      simp only [et] at *
      simp only [decide_eq_true_eq,decide_eq_false_iff_not,gt_iff_lt,ge_iff_le,beq_iff_eq,beq_eq_false_iff_ne] at *
      omega
    exact ⟨x1 - 1,cmp_step L (by simp only [decide_eq_true_eq,decide_eq_false_iff_not,gt_iff_lt,ge_iff_le,beq_iff_eq,beq_eq_false_iff_ne] at *;omega) hd,(by simp only [decide_eq_true_eq,decide_eq_false_iff_not,gt_iff_lt,ge_iff_le,beq_iff_eq,beq_eq_false_iff_ne] at *;omega),rfl,rfl,congrArg (Value.int .i64) (by simp only [decide_eq_true_eq,decide_eq_false_iff_not,gt_iff_lt,ge_iff_le,beq_iff_eq,beq_eq_false_iff_ne] at *;omega),rfl,rfl,trivial⟩
  unfold ref1_Cmp_Q
  have ez:x1=0:=(by simp only [decide_eq_true_eq,decide_eq_false_iff_not,gt_iff_lt,ge_iff_le,beq_iff_eq,beq_eq_false_iff_ne] at *;omega)
  rw [ez] at L
  exact ⟨_,by rw [d_a,d_b];exact hCmp_eq (cmp_end L),rfl,rfl,rfl,trivial⟩
abbrev ref1_Cmp_K (a b:Row) (KK:Int->Prop):Prop:=ref1_Cmp_A a b (fun za zh zv zu zp=>callQr Tryz.prog 42 za zh Int zv zp KK)
theorem ref1_Cmp_m (a b:Row) {KK:Int->Prop} (kont: ∀zx:Int,(zx=hCmp (nv (dg a)) (nv (dg b)))->KK zx) (r_a:RowOK a:=by first | assumption | exact rowOK_lit _ _ (by decide)) (r_b:RowOK b:=by first | assumption | exact rowOK_lit _ _ (by decide)) (la:(dg a).length<=65536:=by omega) (lb:(dg b).length<=65536:=by omega):ref1_Cmp_K a b KK:=callQr_mk (ref1_Cmp a b r_a r_b la lb) (⟨_,rfl⟩) fun zx hz=>by
  simp only [rdv_eq] at hz
  exact kont zx hz
def ref1_Add_C:List Value->List Slot->Ctr:=fun vs hs=>⟨Row,fun zx=>sv zx,fun zx=> [(sarg hs 0),(sarg hs 1),(ss 3 zx)],fun zx=>RowOK zx/\nv (dg zx)=nv (rdv (varg vs 1) (sarg hs 0))+nv (rdv (varg vs 2) (sarg hs 1))/\Canon (dg zx)⟩
abbrev ref1_Add_Q (a b:Row) (zv:Value) (zs0:Slot) (zs1:Slot) (zs2:Slot):Prop:= ∃zx:Row,(RowOK zx/\nv (dg zx)=nv (rdv (sv a) (ss 3 a))+nv (rdv (sv b) (ss 3 b))/\Canon (dg zx))/\zv=sv zx/\zs0=(ss 3 a)/\zs1=(ss 3 b)/\zs2=(ss 3 zx)/\True
abbrev ref1_Add_A (a b:Row) (zF:SF Row):Prop:=zF #[sv a,sv b] [(ss 3 a),(ss 3 b)] (fun zx=>sv zx) (fun zx=> [(ss 3 a),(ss 3 b),(ss 3 zx)]) (fun zx=>(RowOK zx/\nv (dg zx)=nv (rdv (sv a) (ss 3 a))+nv (rdv (sv b) (ss 3 b))/\Canon (dg zx)))
set_option maxRecDepth 100000 in
set_option maxHeartbeats 1000000 in
theorem ref1_Add_vc (a b:Row):ref1_Add_A a b (fun za zh zv zu zp=>codeW Tryz.prog 40 none 2000 none (bodyOf Tryz.f60) (.reg [S0] (.reg [S0] (.reg [S0] (.reg [S0] (.inv (Nat×Int×Row) (fun zx=> [(0,sv a),(1,sv b),(5,sv zx.2.2),(6, .int .i64 zx.2.1),(7, .int .i64 ((zx.1:Nat):Int))]) (fun zx=> [(0,(ss 3 a)),(1,(ss 3 b)),(20,(ss 3 zx.2.2))]) (fun zx=>AddI (dg a) (dg b) zx.1 zx.2.1 (dg zx.2.2)/\RowOK zx.2.2) (fun zx=>2*((max (dg a).length (dg b).length)+1 - zx.1)+zx.2.1.toNat) (fun x1=> .caseP (fun s=>decide ((ci (s.fr 7))<(if ((vlen (sv b):Nat):Int)>((vlen (sv a):Nat):Int) then ((vlen (sv b):Nat):Int) else ((vlen (sv a):Nat):Int)))) (.reg [S0,S0, .eq (f_len),S0, .eq (f_len),S0, .gen [] (Sx.one (.bool true)),S0, .no, .no,S0] (.condT (.reg [S0,S0, .callr [0] ref1_at_C,S0,S0, .callr [1] ref1_at_C, .gen [] (fun vs=>Sx.one (.int .i64 (ci (varg vs 0)+ci (varg vs 1))) vs),S0, .gen [] (fun vs=>Sx.one (.int .i64 (ci (varg vs 0)+ci (varg vs 1))) vs),S0] (.reg [S0,S0, .gen [] (fun vs=>Sx.one (.int .i64 (ci (varg vs 0)%65536)) vs), .sem [.nw 2], .specw [20,2] [20,2] (F_app 3),S0] (.reg [S0, .gen [] (fun vs=>Sx.one (.int .i64 (ci (varg vs 0)/65536)) vs),S0] (.reg [S0, .gen [] (fun vs=>Sx.one (.int .i64 (ci (varg vs 0)+ci (varg vs 1))) vs),S0] (.done))))))) (.reg [S0,S0, .eq (f_len),S0, .eq (f_len),S0, .gen [] (Sx.one (.bool false)),S0,S0,S0,S0] (.cond (.reg [S0,S0, .callr [0] ref1_at_C,S0,S0, .callr [1] ref1_at_C, .gen [] (fun vs=>Sx.one (.int .i64 (ci (varg vs 0)+ci (varg vs 1))) vs),S0, .gen [] (fun vs=>Sx.one (.int .i64 (ci (varg vs 0)+ci (varg vs 1))) vs),S0] (.reg [S0,S0, .gen [] (fun vs=>Sx.one (.int .i64 (ci (varg vs 0)%65536)) vs), .sem [.nw 2], .specw [20,2] [20,2] (F_app 3),S0] (.reg [S0, .gen [] (fun vs=>Sx.one (.int .i64 (ci (varg vs 0)/65536)) vs),S0] (.reg [S0, .gen [] (fun vs=>Sx.one (.int .i64 (ci (varg vs 0)+ci (varg vs 1))) vs),S0] (.done))))) (.reg [S0, .callw [20] [20] ref1_Trim_C,S0] (.done))))))))))
    (init za zh) (finW Tryz.prog Tryz.f60 [] [0,1,20] (X:=Row) zv zu zp))=
    ((∃zx:Nat×Int×Row,(AddI (dg a) (dg b) zx.1 zx.2.1 (dg zx.2.2)/\RowOK zx.2.2)/\sv a=sv a/\sv b=sv b/\Value.slice none 0 0=sv zx.2.2/\Value.int .i64 0= .int .i64 zx.2.1/\Value.int .i64 0= .int .i64 ((zx.1:Nat):Int)/\(ss 3 a)=(ss 3 a)/\(ss 3 b)=(ss 3 b)/\Slot.free=(ss 3 zx.2.2)/\True)/\ ∀x1:Nat×Int×Row,∀jx1:Nat->Value,(AddI (dg a) (dg b) x1.1 x1.2.1 (dg x1.2.2)/\RowOK x1.2.2)->((decide (((x1.1:Nat):Int)<(if ((vlen (sv b):Nat):Int)>((vlen (sv a):Nat):Int) then ((vlen (sv b):Nat):Int) else ((vlen (sv a):Nat):Int))))=true->(PureRun Tryz.prog (vS (Builtin.len_ #[92] 3 #[sv a])) (.int .i64 ((vlen (sv a):Nat):Int)))/\(PureRun Tryz.prog (vS (Builtin.len_ #[92] 3 #[sv b])) (.int .i64 ((vlen (sv b):Nat):Int)))/\(∃_:Unit,True/\Value.bool (decide (((x1.1:Nat):Int)<(if ((vlen (sv b):Nat):Int)>((vlen (sv a):Nat):Int) then ((vlen (sv b):Nat):Int) else ((vlen (sv a):Nat):Int))))= .bool true)/\ ∀_:Unit,(True)->true= !false/\true= !false/\(true=true)/\ref1_at_K a ((x1.1:Nat):Int) (fun x2=>ref1_at_K b ((x1.1:Nat):Int) (fun x3=>(∃_:Unit,True/\Value.int .i64 (IntKind.i64.wrap (x2+x3))= .int .i64 (x2+x3))/\ ∀_:Unit,(True)->(∃_:Unit,True/\Value.int .i64 (IntKind.i64.wrap ((x2+x3)+x1.2.1))= .int .i64 ((x2+x3)+x1.2.1))/\ ∀_:Unit,(True)->(∃_:Unit,True/\Value.int .i64 (Int.tmod ((x2+x3)+x1.2.1) 65536)= .int .i64 (((x2+x3)+x1.2.1)%65536))/\ ∀_:Unit,(True)-> ∀b4:Nat,opQ Tryz.prog (vS (Builtin.append_ #[92,92] 92 #[sv x1.2.2, .slice (some ⟨b4,0,none⟩) 1 1])) [(ss 3 x1.2.2),bk b4 #[.int .i64 (((x2+x3)+x1.2.1)%65536)] 3] Row (fun zx=>sv zx) (fun zx=> [(ss 3 zx),bk b4 #[.int .i64 (((x2+x3)+x1.2.1)%65536)] 3]) (fun zx=>vals zx=rvals (sv x1.2.2) (ss 3 x1.2.2)++ [.int .i64 (((x2+x3)+x1.2.1)%65536)]) (fun x5=>(∃_:Unit,True/\Value.int .i64 (IntKind.i64.wrap (Int.tdiv ((x2+x3)+x1.2.1) 65536))= .int .i64 (((x2+x3)+x1.2.1)/65536))/\ ∀_:Unit,(True)->(∃_:Unit,True/\Value.int .i64 (IntKind.i64.wrap (((x1.1:Nat):Int)+1))= .int .i64 (((x1.1:Nat):Int)+1))/\ ∀_:Unit,(True)-> ∃zy:Nat×Int×Row,(AddI (dg a) (dg b) zy.1 zy.2.1 (dg zy.2.2)/\RowOK zy.2.2)/\2*((max (dg a).length (dg b).length)+1 - zy.1)+zy.2.1.toNat<2*((max (dg a).length (dg b).length)+1 - x1.1)+x1.2.1.toNat/\sv a=sv a/\sv b=sv b/\sv x5=sv zy.2.2/\Value.int .i64 (((x2+x3)+x1.2.1)/65536)= .int .i64 zy.2.1/\Value.int .i64 (((x1.1:Nat):Int)+1)= .int .i64 ((zy.1:Nat):Int)/\(ss 3 a)=(ss 3 a)/\(ss 3 b)=(ss 3 b)/\(ss 3 x5)=(ss 3 zy.2.2)/\True))))/\((decide (((x1.1:Nat):Int)<(if ((vlen (sv b):Nat):Int)>((vlen (sv a):Nat):Int) then ((vlen (sv b):Nat):Int) else ((vlen (sv a):Nat):Int))))=false->(PureRun Tryz.prog (vS (Builtin.len_ #[92] 3 #[sv a])) (.int .i64 ((vlen (sv a):Nat):Int)))/\(PureRun Tryz.prog (vS (Builtin.len_ #[92] 3 #[sv b])) (.int .i64 ((vlen (sv b):Nat):Int)))/\(∃_:Unit,True/\Value.bool (decide (((x1.1:Nat):Int)<(if ((vlen (sv b):Nat):Int)>((vlen (sv a):Nat):Int) then ((vlen (sv b):Nat):Int) else ((vlen (sv a):Nat):Int))))= .bool false)/\ ∀_:Unit,(True)->false=false/\false=false/\((decide (x1.2.1>(0:Int)))=true->ref1_at_K a ((x1.1:Nat):Int) (fun x6=>ref1_at_K b ((x1.1:Nat):Int) (fun x7=>(∃_:Unit,True/\Value.int .i64 (IntKind.i64.wrap (x6+x7))= .int .i64 (x6+x7))/\ ∀_:Unit,(True)->(∃_:Unit,True/\Value.int .i64 (IntKind.i64.wrap ((x6+x7)+x1.2.1))= .int .i64 ((x6+x7)+x1.2.1))/\ ∀_:Unit,(True)->(∃_:Unit,True/\Value.int .i64 (Int.tmod ((x6+x7)+x1.2.1) 65536)= .int .i64 (((x6+x7)+x1.2.1)%65536))/\ ∀_:Unit,(True)-> ∀b8:Nat,opQ Tryz.prog (vS (Builtin.append_ #[92,92] 92 #[sv x1.2.2, .slice (some ⟨b8,0,none⟩) 1 1])) [(ss 3 x1.2.2),bk b8 #[.int .i64 (((x6+x7)+x1.2.1)%65536)] 3] Row (fun zx=>sv zx) (fun zx=> [(ss 3 zx),bk b8 #[.int .i64 (((x6+x7)+x1.2.1)%65536)] 3]) (fun zx=>vals zx=rvals (sv x1.2.2) (ss 3 x1.2.2)++ [.int .i64 (((x6+x7)+x1.2.1)%65536)]) (fun x9=>(∃_:Unit,True/\Value.int .i64 (IntKind.i64.wrap (Int.tdiv ((x6+x7)+x1.2.1) 65536))= .int .i64 (((x6+x7)+x1.2.1)/65536))/\ ∀_:Unit,(True)->(∃_:Unit,True/\Value.int .i64 (IntKind.i64.wrap (((x1.1:Nat):Int)+1))= .int .i64 (((x1.1:Nat):Int)+1))/\ ∀_:Unit,(True)-> ∃zy:Nat×Int×Row,(AddI (dg a) (dg b) zy.1 zy.2.1 (dg zy.2.2)/\RowOK zy.2.2)/\2*((max (dg a).length (dg b).length)+1 - zy.1)+zy.2.1.toNat<2*((max (dg a).length (dg b).length)+1 - x1.1)+x1.2.1.toNat/\sv a=sv a/\sv b=sv b/\sv x9=sv zy.2.2/\Value.int .i64 (((x6+x7)+x1.2.1)/65536)= .int .i64 zy.2.1/\Value.int .i64 (((x1.1:Nat):Int)+1)= .int .i64 ((zy.1:Nat):Int)/\(ss 3 a)=(ss 3 a)/\(ss 3 b)=(ss 3 b)/\(ss 3 x9)=(ss 3 zy.2.2)/\True))))/\((decide (x1.2.1>(0:Int)))=false->ref1_Trim_K x1.2.2 (fun x10=>ref1_Add_Q a b (sv x10) (ss 3 a) (ss 3 b) (ss 3 x10))))):=by kernel_rfl
set_option maxRecDepth 100000 in
set_option maxHeartbeats 1000000 in
theorem ref1_Add (a b:Row) (r_a:RowOK a) (r_b:RowOK b) (la:(dg a).length<=65536) (lb:(dg b).length<=65536):ref1_Add_A a b (fun za zh zv zu zp=>CallT Tryz.prog 60 za zh Row zv zu zp):=by
  refine call_of (c:=bodyOf Tryz.f60) (n:=40) (fn:=Tryz.f60) Tryz.mixed Tryz.func60 (by kernel_rfl) (by kernel_rfl) (by kernel_rfl) 2000 _ [] [0,1,20] rfl rfl (Eq.mpr (ref1_Add_vc a b) ?_)
  have d_a:=rdv_eq a 3
  have d_b:=rdv_eq b 3
  have e_a:=vlen_dg a
  have e_b:=vlen_dg b
  have hm:(if (((vlen (sv b):Nat):Int))>(((vlen (sv a):Nat):Int)) then (((vlen (sv b):Nat):Int)) else (((vlen (sv a):Nat):Int)))=(((max (dg a).length (dg b).length):Nat):Int):=by rw [e_a,e_b];split<;>omega
  refine ⟨?_,fun x1 jx1 h1=> ?_⟩
  · exact ⟨(0,0,Row.nil),⟨add_start _ _,RowOK.nil⟩,rfl,rfl,rfl,rfl,rfl,rfl,rfl,rfl,trivial⟩
  obtain ⟨L,ok⟩:=h1
  have l1:=L.le;have l2:=L.len;have l3:=L.c0;have l4:=L.c1;have l5:=L.ends
  have da:=r_a.dig.dgt (Int.toNat ((x1.1:Nat):Int))
  have db:=r_b.dig.dgt (Int.toNat ((x1.1:Nat):Int))
  refine ⟨fun h2=> ?_,fun h2=> ?_⟩
  · refine ⟨xlen Tryz.sl92 3 a,xlen Tryz.sl92 3 b,⟨(),trivial,congrArg Value.bool h2⟩,fun _=>fun _=>⟨rfl,rfl,⟨rfl,?_⟩⟩⟩
    try rw [hm] at *
    refine ref1_at_m a ((x1.1:Nat):Int) (fun x2 h3=>ref1_at_m b ((x1.1:Nat):Int) (fun x3 h4=>⟨⟨(),trivial,congrArg (Value.int .i64) (wrap_i64 _ (by omega) (by omega))⟩,fun _=>fun _=>⟨⟨(),trivial,congrArg (Value.int .i64) (wrap_i64 _ (by omega) (by omega))⟩,fun _=>fun _=>⟨⟨(),trivial,congrArg (Value.int .i64) (tmod_nat (by omega))⟩,fun _=>fun _=>fun b4=>opQ_mk (xappendR Tryz.sl92 92 x1.2.2 (by omega) b4 1 (.int .i64 (((x2+x3)+x1.2.1)%65536)) rfl) (wit_app _) fun x5 h5=> ?_⟩⟩⟩))
    rw [rvals_eq] at h5
    refine ⟨⟨(),trivial,congrArg (Value.int .i64) (quo_i64 (by omega) (by omega))⟩,fun _=>fun _=>⟨⟨(),trivial,congrArg (Value.int .i64) (wrap_i64 _ (by omega) (by omega))⟩,fun _=>fun _=> ?_⟩⟩
    have hx:((x2+x3)+x1.2.1)=dgt (dg a) x1.1+dgt (dg b) x1.1+x1.2.1:=by
      simp only [Int.toNat_natCast] at *
      omega
    have hlt:(x1.1<(max (dg a).length (dg b).length))∨0<x1.2.1:=by
      simp only [decide_eq_true_eq,decide_eq_false_iff_not,gt_iff_lt,ge_iff_le,beq_iff_eq,beq_eq_false_iff_ne] at *
      omega
    obtain ⟨q1,q2,q3⟩:=add_step r_a.dig r_b.dig L hx hlt
    have q:=RowOK.snoc ok q2 q3 (by assumption)
    have hmu:=q1.c1
    exact ⟨(x1.1+1,((x2+x3)+x1.2.1)/65536,x5),⟨q.2▸q1,q.1⟩,by dsimp only;omega,rfl,rfl,rfl,rfl,congrArg (Value.int .i64) (by dsimp only;omega),rfl,rfl,rfl,trivial⟩
  refine ⟨xlen Tryz.sl92 3 a,xlen Tryz.sl92 3 b,⟨(),trivial,congrArg Value.bool h2⟩,fun _=>fun _=>⟨rfl,rfl,⟨fun h6=> ?_,fun h6=> ?_⟩⟩⟩
  · try rw [hm] at *
    refine ref1_at_m a ((x1.1:Nat):Int) (fun x6 h7=>ref1_at_m b ((x1.1:Nat):Int) (fun x7 h8=>⟨⟨(),trivial,congrArg (Value.int .i64) (wrap_i64 _ (by omega) (by omega))⟩,fun _=>fun _=>⟨⟨(),trivial,congrArg (Value.int .i64) (wrap_i64 _ (by omega) (by omega))⟩,fun _=>fun _=>⟨⟨(),trivial,congrArg (Value.int .i64) (tmod_nat (by omega))⟩,fun _=>fun _=>fun b8=>opQ_mk (xappendR Tryz.sl92 92 x1.2.2 (by omega) b8 1 (.int .i64 (((x6+x7)+x1.2.1)%65536)) rfl) (wit_app _) fun x9 h9=> ?_⟩⟩⟩))
    rw [rvals_eq] at h9
    refine ⟨⟨(),trivial,congrArg (Value.int .i64) (quo_i64 (by omega) (by omega))⟩,fun _=>fun _=>⟨⟨(),trivial,congrArg (Value.int .i64) (wrap_i64 _ (by omega) (by omega))⟩,fun _=>fun _=> ?_⟩⟩
    have hx:((x6+x7)+x1.2.1)=dgt (dg a) x1.1+dgt (dg b) x1.1+x1.2.1:=by
      simp only [Int.toNat_natCast] at *
      omega
    have hlt:(x1.1<(max (dg a).length (dg b).length))∨0<x1.2.1:=by
      simp only [decide_eq_true_eq,decide_eq_false_iff_not,gt_iff_lt,ge_iff_le,beq_iff_eq,beq_eq_false_iff_ne] at *
      omega
    obtain ⟨q1,q2,q3⟩:=add_step r_a.dig r_b.dig L hx hlt
    have q:=RowOK.snoc ok q2 q3 (by assumption)
    have hmu:=q1.c1
    exact ⟨(x1.1+1,((x6+x7)+x1.2.1)/65536,x9),⟨q.2▸q1,q.1⟩,by dsimp only;omega,rfl,rfl,rfl,rfl,congrArg (Value.int .i64) (by dsimp only;omega),rfl,rfl,rfl,trivial⟩
  refine ref1_Trim_m x1.2.2 (fun x10 rh10_ h10=> ?_)
  unfold ref1_Add_Q
  have T:TrimR (dg x1.2.2) (dg x10):=by first | exact And.right (by assumption) | assumption
  have hi:(max (dg a).length (dg b).length)<=x1.1:=by
    simp only [decide_eq_true_eq,decide_eq_false_iff_not,gt_iff_lt,ge_iff_le,beq_iff_eq,beq_eq_false_iff_ne] at *
    omega
  have hc:x1.2.1<=0:=by
    simp only [decide_eq_true_eq,decide_eq_false_iff_not,gt_iff_lt,ge_iff_le,beq_iff_eq,beq_eq_false_iff_ne] at *
    omega
  exact ⟨_,⟨by assumption,by rw [d_a,d_b];exact T.eq.trans (add_end L hi hc),T.canon⟩,rfl,rfl,rfl,rfl,trivial⟩
abbrev ref1_Add_K (a b:Row) (KK:Row->Prop):Prop:=ref1_Add_A a b (fun za zh zv zu zp=>callQ Tryz.prog 60 za zh Row zv zu zp KK)
theorem ref1_Add_m (a b:Row) {KK:Row->Prop} (kont: ∀zx:Row,RowOK zx->(nv (dg zx)=nv (dg a)+nv (dg b)/\Canon (dg zx))->KK zx) (r_a:RowOK a:=by first | assumption | exact rowOK_lit _ _ (by decide)) (r_b:RowOK b:=by first | assumption | exact rowOK_lit _ _ (by decide)) (la:(dg a).length<=65536:=by omega) (lb:(dg b).length<=65536:=by omega):ref1_Add_K a b KK:=callQ_mk (ref1_Add a b r_a r_b la lb) (wit_row (by rw [rdv_eq a,rdv_eq b];exact Int.add_nonneg (nv_nonneg (RowOK.dig (r_a))) (nv_nonneg (RowOK.dig (r_b))))) fun zx hz=>by
  simp only [rdv_eq] at hz
  obtain ⟨rhz_,hz⟩:=hz
  exact kont zx rhz_ hz
def ref1_Sub_C:List Value->List Slot->Ctr:=fun vs hs=>⟨Row,fun zx=>sv zx,fun zx=> [(sarg hs 0),(sarg hs 1),(ss 3 zx)],fun zx=>RowOK zx/\nv (dg zx)=nv (rdv (varg vs 1) (sarg hs 0)) - nv (rdv (varg vs 2) (sarg hs 1))/\Canon (dg zx)⟩
abbrev ref1_Sub_Q (a b:Row) (zv:Value) (zs0:Slot) (zs1:Slot) (zs2:Slot):Prop:= ∃zx:Row,(RowOK zx/\nv (dg zx)=nv (rdv (sv a) (ss 3 a)) - nv (rdv (sv b) (ss 3 b))/\Canon (dg zx))/\zv=sv zx/\zs0=(ss 3 a)/\zs1=(ss 3 b)/\zs2=(ss 3 zx)/\True
abbrev ref1_Sub_A (a b:Row) (zF:SF Row):Prop:=zF #[sv a,sv b] [(ss 3 a),(ss 3 b)] (fun zx=>sv zx) (fun zx=> [(ss 3 a),(ss 3 b),(ss 3 zx)]) (fun zx=>(RowOK zx/\nv (dg zx)=nv (rdv (sv a) (ss 3 a)) - nv (rdv (sv b) (ss 3 b))/\Canon (dg zx)))
set_option maxRecDepth 100000 in
set_option maxHeartbeats 1000000 in
theorem ref1_Sub_vc (a b:Row):ref1_Sub_A a b (fun za zh zv zu zp=>codeW Tryz.prog 35 none 2000 none (bodyOf Tryz.f84) (.reg [S0] (.reg [S0] (.reg [S0] (.reg [S0] (.inv (Nat×Int×Row) (fun zx=> [(0,sv a),(1,sv b),(5,sv zx.2.2),(6, .int .i64 zx.2.1),(7, .int .i64 ((zx.1:Nat):Int))]) (fun zx=> [(0,(ss 3 a)),(1,(ss 3 b)),(20,(ss 3 zx.2.2))]) (fun zx=>SubI (dg a) (dg b) zx.1 zx.2.1 (dg zx.2.2)/\RowOK zx.2.2) (fun zx=>(dg a).length - zx.1) (fun x1=> .reg [S0,S0, .eq (f_len),S0] (.cond (.reg [S0,S0, .eq (f_idx), .specr [0] F_get,S0,S0, .callr [1] ref1_at_C, .gen [] (fun vs=>Sx.one (.int .i64 (ci (varg vs 0) - ci (varg vs 1))) vs),S0, .gen [] (fun vs=>Sx.one (.int .i64 (ci (varg vs 0) - ci (varg vs 1))) vs),S0] (.reg [S0] (.reg [S0,S0] (.cond (.reg [S0, .gen [] (fun vs=>Sx.one (.int .i64 (ci (varg vs 0)+ci (varg vs 1))) vs),S0] (.reg [S0] (.reg [S0,S0, .sem [.nw 2], .specw [20,2] [20,2] (F_app 3),S0] (.reg [S0, .gen [] (fun vs=>Sx.one (.int .i64 (ci (varg vs 0)+ci (varg vs 1))) vs),S0] (.done))))) (.reg [S0,S0, .sem [.nw 2], .specw [20,2] [20,2] (F_app 3),S0] (.reg [S0, .gen [] (fun vs=>Sx.one (.int .i64 (ci (varg vs 0)+ci (varg vs 1))) vs),S0] (.done))))))) (.reg [S0, .callw [20] [20] ref1_Trim_C,S0] (.done)))))))))
    (init za zh) (finW Tryz.prog Tryz.f84 [] [0,1,20] (X:=Row) zv zu zp))=
    ((∃zx:Nat×Int×Row,(SubI (dg a) (dg b) zx.1 zx.2.1 (dg zx.2.2)/\RowOK zx.2.2)/\sv a=sv a/\sv b=sv b/\Value.slice none 0 0=sv zx.2.2/\Value.int .i64 0= .int .i64 zx.2.1/\Value.int .i64 0= .int .i64 ((zx.1:Nat):Int)/\(ss 3 a)=(ss 3 a)/\(ss 3 b)=(ss 3 b)/\Slot.free=(ss 3 zx.2.2)/\True)/\ ∀x1:Nat×Int×Row,∀jx1:Nat->Value,(SubI (dg a) (dg b) x1.1 x1.2.1 (dg x1.2.2)/\RowOK x1.2.2)->(PureRun Tryz.prog (vS (Builtin.len_ #[92] 3 #[sv a])) (.int .i64 ((vlen (sv a):Nat):Int)))/\((decide (((x1.1:Nat):Int)<((vlen (sv a):Nat):Int)))=true->(PureRun Tryz.prog (vS (Instr.indexAt 92 (sv a) (.int .i64 ((x1.1:Nat):Int)))) (.pointer (some ⟨(vblk (sv a)),(Int.toNat ((x1.1:Nat):Int)),none⟩)))/\opQr Tryz.prog (vS (Instr.loadAt 3 (.pointer (some ⟨(vblk (sv a)),(Int.toNat ((x1.1:Nat):Int)),none⟩)))) [(ss 3 a)] Int (fun zx=> .int .i64 zx) (fun zx=>(scells (ss 3 a))[(Int.toNat ((x1.1:Nat):Int))]? =some (.int .i64 zx)) (fun x2=>ref1_at_K b ((x1.1:Nat):Int) (fun x3=>(∃_:Unit,True/\Value.int .i64 (IntKind.i64.wrap (x2 - x3))= .int .i64 (x2 - x3))/\ ∀_:Unit,(True)->(∃_:Unit,True/\Value.int .i64 (IntKind.i64.wrap ((x2 - x3) - x1.2.1))= .int .i64 ((x2 - x3) - x1.2.1))/\ ∀_:Unit,(True)->((decide (((x2 - x3) - x1.2.1)<(0:Int)))=true->(∃_:Unit,True/\Value.int .i64 (IntKind.i64.wrap (((x2 - x3) - x1.2.1)+65536))= .int .i64 (((x2 - x3) - x1.2.1)+65536))/\ ∀_:Unit,(True)-> ∀b4:Nat,opQ Tryz.prog (vS (Builtin.append_ #[92,92] 92 #[sv x1.2.2, .slice (some ⟨b4,0,none⟩) 1 1])) [(ss 3 x1.2.2),bk b4 #[.int .i64 (((x2 - x3) - x1.2.1)+65536)] 3] Row (fun zx=>sv zx) (fun zx=> [(ss 3 zx),bk b4 #[.int .i64 (((x2 - x3) - x1.2.1)+65536)] 3]) (fun zx=>vals zx=rvals (sv x1.2.2) (ss 3 x1.2.2)++ [.int .i64 (((x2 - x3) - x1.2.1)+65536)]) (fun x5=>(∃_:Unit,True/\Value.int .i64 (IntKind.i64.wrap (((x1.1:Nat):Int)+1))= .int .i64 (((x1.1:Nat):Int)+1))/\ ∀_:Unit,(True)-> ∃zy:Nat×Int×Row,(SubI (dg a) (dg b) zy.1 zy.2.1 (dg zy.2.2)/\RowOK zy.2.2)/\(dg a).length - zy.1<(dg a).length - x1.1/\sv a=sv a/\sv b=sv b/\sv x5=sv zy.2.2/\Value.int .i64 1= .int .i64 zy.2.1/\Value.int .i64 (((x1.1:Nat):Int)+1)= .int .i64 ((zy.1:Nat):Int)/\(ss 3 a)=(ss 3 a)/\(ss 3 b)=(ss 3 b)/\(ss 3 x5)=(ss 3 zy.2.2)/\True))/\((decide (((x2 - x3) - x1.2.1)<(0:Int)))=false-> ∀b6:Nat,opQ Tryz.prog (vS (Builtin.append_ #[92,92] 92 #[sv x1.2.2, .slice (some ⟨b6,0,none⟩) 1 1])) [(ss 3 x1.2.2),bk b6 #[.int .i64 ((x2 - x3) - x1.2.1)] 3] Row (fun zx=>sv zx) (fun zx=> [(ss 3 zx),bk b6 #[.int .i64 ((x2 - x3) - x1.2.1)] 3]) (fun zx=>vals zx=rvals (sv x1.2.2) (ss 3 x1.2.2)++ [.int .i64 ((x2 - x3) - x1.2.1)]) (fun x7=>(∃_:Unit,True/\Value.int .i64 (IntKind.i64.wrap (((x1.1:Nat):Int)+1))= .int .i64 (((x1.1:Nat):Int)+1))/\ ∀_:Unit,(True)-> ∃zy:Nat×Int×Row,(SubI (dg a) (dg b) zy.1 zy.2.1 (dg zy.2.2)/\RowOK zy.2.2)/\(dg a).length - zy.1<(dg a).length - x1.1/\sv a=sv a/\sv b=sv b/\sv x7=sv zy.2.2/\Value.int .i64 0= .int .i64 zy.2.1/\Value.int .i64 (((x1.1:Nat):Int)+1)= .int .i64 ((zy.1:Nat):Int)/\(ss 3 a)=(ss 3 a)/\(ss 3 b)=(ss 3 b)/\(ss 3 x7)=(ss 3 zy.2.2)/\True)))))/\((decide (((x1.1:Nat):Int)<((vlen (sv a):Nat):Int)))=false->ref1_Trim_K x1.2.2 (fun x8=>ref1_Sub_Q a b (sv x8) (ss 3 a) (ss 3 b) (ss 3 x8)))):=by kernel_rfl
set_option maxRecDepth 100000 in
set_option maxHeartbeats 1000000 in
theorem ref1_Sub (a b:Row) (r_a:RowOK a) (r_b:RowOK b) (la:(dg a).length<=65536) (lb:(dg b).length<=65536) (hle:nv (dg b)<=nv (dg a)):ref1_Sub_A a b (fun za zh zv zu zp=>CallT Tryz.prog 84 za zh Row zv zu zp):=by
  refine call_of (c:=bodyOf Tryz.f84) (n:=35) (fn:=Tryz.f84) Tryz.mixed Tryz.func84 (by kernel_rfl) (by kernel_rfl) (by kernel_rfl) 2000 _ [] [0,1,20] rfl rfl (Eq.mpr (ref1_Sub_vc a b) ?_)
  have d_a:=rdv_eq a 3
  have d_b:=rdv_eq b 3
  have e_a:=vlen_dg a
  have e_b:=vlen_dg b
  refine ⟨?_,fun x1 jx1 h1=> ?_⟩
  · exact ⟨(0,0,Row.nil),⟨sub_start _ _,RowOK.nil⟩,rfl,rfl,rfl,rfl,rfl,rfl,rfl,rfl,trivial⟩
  obtain ⟨L,ok⟩:=h1
  have l1:=L.le;have l2:=L.len;have l3:=L.c0;have l4:=L.c1
  have da:=r_a.dig.dgt (Int.toNat ((x1.1:Nat):Int))
  have db:=r_b.dig.dgt (Int.toNat ((x1.1:Nat):Int))
  refine ⟨xlen Tryz.sl92 3 a,⟨fun h2=> ?_,fun h2=> ?_⟩⟩
  · refine ⟨xidx Tryz.sl92 a .i64 ((x1.1:Nat):Int) (by omega) (by rw [←dg_len];simp only [decide_eq_true_eq,decide_eq_false_iff_not,gt_iff_lt,ge_iff_le,beq_iff_eq,beq_eq_false_iff_ne] at *;omega),opQr_mk (xgetR (e:=3) a 3 Tryz.agg3 (Int.toNat ((x1.1:Nat):Int)) r_a (by simp only [decide_eq_true_eq,decide_eq_false_iff_not,gt_iff_lt,ge_iff_le,beq_iff_eq,beq_eq_false_iff_ne] at *;omega)) (wit_get (e:=3) a (Int.toNat ((x1.1:Nat):Int)) r_a (by simp only [decide_eq_true_eq,decide_eq_false_iff_not,gt_iff_lt,ge_iff_le,beq_iff_eq,beq_eq_false_iff_ne] at *;omega)) fun x2 h3=> ?_⟩
    replace h3:=getR (e:=3) a (Int.toNat ((x1.1:Nat):Int)) r_a (by simp only [decide_eq_true_eq,decide_eq_false_iff_not,gt_iff_lt,ge_iff_le,beq_iff_eq,beq_eq_false_iff_ne] at *;omega) h3
    refine ref1_at_m b ((x1.1:Nat):Int) (fun x3 h4=>⟨⟨(),trivial,congrArg (Value.int .i64) (wrap_i64 _ (by omega) (by omega))⟩,fun _=>fun _=>⟨⟨(),trivial,congrArg (Value.int .i64) (wrap_i64 _ (by omega) (by omega))⟩,fun _=>fun _=>⟨fun h5=> ?_,fun h5=> ?_⟩⟩⟩)
    · refine ⟨⟨(),trivial,congrArg (Value.int .i64) (wrap_i64 _ (by omega) (by omega))⟩,fun _=>fun _=>fun b4=>opQ_mk (xappendR Tryz.sl92 92 x1.2.2 (by omega) b4 1 (.int .i64 (((x2 - x3) - x1.2.1)+65536)) rfl) (wit_app _) fun x5 h6=> ?_⟩
      rw [rvals_eq] at h6
      refine ⟨⟨(),trivial,congrArg (Value.int .i64) (wrap_i64 _ (by omega) (by omega))⟩,fun _=>fun _=> ?_⟩
      have q1:=sub_go (x:=(((x2 - x3) - x1.2.1)+65536)) (c' :=1) r_a.dig r_b.dig L (by simp only [decide_eq_true_eq,decide_eq_false_iff_not,gt_iff_lt,ge_iff_le,beq_iff_eq,beq_eq_false_iff_ne] at *;omega) (by simp only [Int.toNat_natCast] at *;simp only [decide_eq_true_eq,decide_eq_false_iff_not,gt_iff_lt,ge_iff_le,beq_iff_eq,beq_eq_false_iff_ne] at *;omega) (by simp only [decide_eq_true_eq,decide_eq_false_iff_not,gt_iff_lt,ge_iff_le,beq_iff_eq,beq_eq_false_iff_ne] at *;omega) (by simp only [decide_eq_true_eq,decide_eq_false_iff_not,gt_iff_lt,ge_iff_le,beq_iff_eq,beq_eq_false_iff_ne] at *;omega) (by decide) (by decide)
      have q:=RowOK.snoc ok (x:=(((x2 - x3) - x1.2.1)+65536)) (by simp only [decide_eq_true_eq,decide_eq_false_iff_not,gt_iff_lt,ge_iff_le,beq_iff_eq,beq_eq_false_iff_ne] at *;omega) (by simp only [decide_eq_true_eq,decide_eq_false_iff_not,gt_iff_lt,ge_iff_le,beq_iff_eq,beq_eq_false_iff_ne] at *;omega) (by assumption)
      exact ⟨(x1.1+1,1,x5),⟨q.2▸q1,q.1⟩,by dsimp only;simp only [decide_eq_true_eq,decide_eq_false_iff_not,gt_iff_lt,ge_iff_le,beq_iff_eq,beq_eq_false_iff_ne] at *;omega,rfl,rfl,rfl,rfl,congrArg (Value.int .i64) (by dsimp only;omega),rfl,rfl,rfl,trivial⟩
    intro b6
    refine opQ_mk (xappendR Tryz.sl92 92 x1.2.2 (by omega) b6 1 (.int .i64 ((x2 - x3) - x1.2.1)) rfl) (wit_app _) fun x7 h7=> ?_
    rw [rvals_eq] at h7
    refine ⟨⟨(),trivial,congrArg (Value.int .i64) (wrap_i64 _ (by omega) (by omega))⟩,fun _=>fun _=> ?_⟩
    have q1:=sub_go (x:=((x2 - x3) - x1.2.1)) (c' :=0) r_a.dig r_b.dig L (by simp only [decide_eq_true_eq,decide_eq_false_iff_not,gt_iff_lt,ge_iff_le,beq_iff_eq,beq_eq_false_iff_ne] at *;omega) (by simp only [Int.toNat_natCast] at *;simp only [decide_eq_true_eq,decide_eq_false_iff_not,gt_iff_lt,ge_iff_le,beq_iff_eq,beq_eq_false_iff_ne] at *;omega) (by simp only [decide_eq_true_eq,decide_eq_false_iff_not,gt_iff_lt,ge_iff_le,beq_iff_eq,beq_eq_false_iff_ne] at *;omega) (by simp only [decide_eq_true_eq,decide_eq_false_iff_not,gt_iff_lt,ge_iff_le,beq_iff_eq,beq_eq_false_iff_ne] at *;omega) (by decide) (by decide)
    have q:=RowOK.snoc ok (x:=((x2 - x3) - x1.2.1)) (by simp only [decide_eq_true_eq,decide_eq_false_iff_not,gt_iff_lt,ge_iff_le,beq_iff_eq,beq_eq_false_iff_ne] at *;omega) (by simp only [decide_eq_true_eq,decide_eq_false_iff_not,gt_iff_lt,ge_iff_le,beq_iff_eq,beq_eq_false_iff_ne] at *;omega) (by assumption)
    exact ⟨(x1.1+1,0,x7),⟨q.2▸q1,q.1⟩,by dsimp only;simp only [decide_eq_true_eq,decide_eq_false_iff_not,gt_iff_lt,ge_iff_le,beq_iff_eq,beq_eq_false_iff_ne] at *;omega,rfl,rfl,rfl,rfl,congrArg (Value.int .i64) (by dsimp only;omega),rfl,rfl,rfl,trivial⟩
  refine ref1_Trim_m x1.2.2 (fun x8 rh8_ h8=> ?_)
  unfold ref1_Sub_Q
  have T:TrimR (dg x1.2.2) (dg x8):=by first | exact And.right (by assumption) | assumption
  have hi:x1.1=(dg a).length:=by
    simp only [decide_eq_true_eq,decide_eq_false_iff_not,gt_iff_lt,ge_iff_le,beq_iff_eq,beq_eq_false_iff_ne] at *
    omega
  rw [hi] at L
  exact ⟨_,⟨by assumption,by rw [d_a,d_b];exact T.eq.trans (sub_end r_a.dig r_b.dig ok.dig L hle),T.canon⟩,rfl,rfl,rfl,rfl,trivial⟩
abbrev ref1_Sub_K (a b:Row) (KK:Row->Prop):Prop:=ref1_Sub_A a b (fun za zh zv zu zp=>callQ Tryz.prog 84 za zh Row zv zu zp KK)
theorem ref1_Sub_m (a b:Row) {KK:Row->Prop} (kont: ∀zx:Row,RowOK zx->(nv (dg zx)=nv (dg a) - nv (dg b)/\Canon (dg zx))->KK zx) (r_a:RowOK a:=by first | assumption | exact rowOK_lit _ _ (by decide)) (r_b:RowOK b:=by first | assumption | exact rowOK_lit _ _ (by decide)) (la:(dg a).length<=65536:=by omega) (lb:(dg b).length<=65536:=by omega) (hle:nv (dg b)<=nv (dg a):=by omega):ref1_Sub_K a b KK:=callQ_mk (ref1_Sub a b r_a r_b la lb hle) (wit_row (by rw [rdv_eq a,rdv_eq b];omega)) fun zx hz=>by
  simp only [rdv_eq] at hz
  obtain ⟨rhz_,hz⟩:=hz
  exact kont zx rhz_ hz
def ref2_Row_C:List Value->List Slot->Ctr:=fun vs hs=>⟨Row,fun zx=>sv zx,fun zx=> [(ss 3 zx)],fun zx=>RowOK zx/\nv (dg zx)=(num (varg vs 1))/\Canon (dg zx)/\(dg zx).length<=16⟩
abbrev ref2_Row_Q (a:Int) (zv:Value) (zs0:Slot):Prop:= ∃zx:Row,(RowOK zx/\nv (dg zx)=(num (vI a))/\Canon (dg zx)/\(dg zx).length<=16)/\zv=sv zx/\zs0=(ss 3 zx)/\True
abbrev ref2_Row_A (a:Int) (zF:SF Row):Prop:=zF #[vI a] [] (fun zx=>sv zx) (fun zx=> [(ss 3 zx)]) (fun zx=>(RowOK zx/\nv (dg zx)=(num (vI a))/\Canon (dg zx)/\(dg zx).length<=16))
set_option maxRecDepth 100000 in
set_option maxHeartbeats 2000000 in
theorem ref2_Row_vc (a:Int):ref2_Row_A a (fun za zh zv zu zp=>codeW Tryz.prog 24 none 2000 none (bodyOf Tryz.f43) (.reg [.sem [.nw 0],S0] (.reg [S0] (.reg [.sem (rds 4 0),S0] (.reg [S0] (.condT (.reg [S0,S0] (.reg [S0] (.reg [S0] (.condT (.reg [S0,S0, .gen [] (fun vs=>Sx.one (uu (ci (varg vs 0)%65536)) vs), .gen [] (fun vs=>Sx.one (.int .i64 (ci (varg vs 0))) vs), .sem [.nw 1], .specw [2,1] [20,1] (F_app 3),S0] (.reg [S0, .gen [] (fun vs=>Sx.one (uu (ci (varg vs 0)/65536)) vs),S0] (.reg [S0,S0] (.reg [S0] (.condT (.reg [S0,S0, .gen [] (fun vs=>Sx.one (uu (ci (varg vs 0)%65536)) vs), .gen [] (fun vs=>Sx.one (.int .i64 (ci (varg vs 0))) vs), .sem [.nw 1], .specw [20,1] [20,1] (F_app 3),S0] (.reg [S0, .gen [] (fun vs=>Sx.one (uu (ci (varg vs 0)/65536)) vs),S0] (.reg [S0,S0] (.reg [S0] (.condT (.reg [S0,S0, .gen [] (fun vs=>Sx.one (uu (ci (varg vs 0)%65536)) vs), .gen [] (fun vs=>Sx.one (.int .i64 (ci (varg vs 0))) vs), .sem [.nw 1], .specw [20,1] [20,1] (F_app 3),S0] (.reg [S0, .gen [] (fun vs=>Sx.one (uu (ci (varg vs 0)/65536)) vs),S0] (.reg [S0,S0] (.reg [S0] (.condT (.reg [S0,S0, .gen [] (fun vs=>Sx.one (uu (ci (varg vs 0)%65536)) vs), .gen [] (fun vs=>Sx.one (.int .i64 (ci (varg vs 0))) vs), .sem [.nw 1], .specw [20,1] [20,1] (F_app 3),S0] (.reg [S0, .gen [] (fun vs=>Sx.one (uu (ci (varg vs 0)/65536)) vs),S0] (.reg [S0,S0] (.reg [S0] (.condF (.reg [S0,S0] (.reg [S0] (.condT (.reg [S0,S0] (.reg [S0] (.reg [S0] (.condT (.reg [S0,S0, .gen [] (fun vs=>Sx.one (uu (ci (varg vs 0)%65536)) vs), .gen [] (fun vs=>Sx.one (.int .i64 (ci (varg vs 0))) vs), .sem [.nw 1], .specw [20,1] [20,1] (F_app 3),S0] (.reg [S0, .gen [] (fun vs=>Sx.one (uu (ci (varg vs 0)/65536)) vs),S0] (.reg [S0,S0] (.reg [S0] (.condT (.reg [S0,S0, .gen [] (fun vs=>Sx.one (uu (ci (varg vs 0)%65536)) vs), .gen [] (fun vs=>Sx.one (.int .i64 (ci (varg vs 0))) vs), .sem [.nw 1], .specw [20,1] [20,1] (F_app 3),S0] (.reg [S0, .gen [] (fun vs=>Sx.one (uu (ci (varg vs 0)/65536)) vs),S0] (.reg [S0,S0] (.reg [S0] (.condT (.reg [S0,S0, .gen [] (fun vs=>Sx.one (uu (ci (varg vs 0)%65536)) vs), .gen [] (fun vs=>Sx.one (.int .i64 (ci (varg vs 0))) vs), .sem [.nw 1], .specw [20,1] [20,1] (F_app 3),S0] (.reg [S0, .gen [] (fun vs=>Sx.one (uu (ci (varg vs 0)/65536)) vs),S0] (.reg [S0,S0] (.reg [S0] (.condT (.reg [S0,S0, .gen [] (fun vs=>Sx.one (uu (ci (varg vs 0)%65536)) vs), .gen [] (fun vs=>Sx.one (.int .i64 (ci (varg vs 0))) vs), .sem [.nw 1], .specw [20,1] [20,1] (F_app 3),S0] (.reg [S0, .gen [] (fun vs=>Sx.one (uu (ci (varg vs 0)/65536)) vs),S0] (.reg [S0,S0] (.reg [S0] (.condF (.reg [S0,S0] (.reg [S0] (.condT (.reg [S0,S0] (.reg [S0] (.reg [S0] (.condT (.reg [S0,S0, .gen [] (fun vs=>Sx.one (uu (ci (varg vs 0)%65536)) vs), .gen [] (fun vs=>Sx.one (.int .i64 (ci (varg vs 0))) vs), .sem [.nw 1], .specw [20,1] [20,1] (F_app 3),S0] (.reg [S0, .gen [] (fun vs=>Sx.one (uu (ci (varg vs 0)/65536)) vs),S0] (.reg [S0,S0] (.reg [S0] (.condT (.reg [S0,S0, .gen [] (fun vs=>Sx.one (uu (ci (varg vs 0)%65536)) vs), .gen [] (fun vs=>Sx.one (.int .i64 (ci (varg vs 0))) vs), .sem [.nw 1], .specw [20,1] [20,1] (F_app 3),S0] (.reg [S0, .gen [] (fun vs=>Sx.one (uu (ci (varg vs 0)/65536)) vs),S0] (.reg [S0,S0] (.reg [S0] (.condT (.reg [S0,S0, .gen [] (fun vs=>Sx.one (uu (ci (varg vs 0)%65536)) vs), .gen [] (fun vs=>Sx.one (.int .i64 (ci (varg vs 0))) vs), .sem [.nw 1], .specw [20,1] [20,1] (F_app 3),S0] (.reg [S0, .gen [] (fun vs=>Sx.one (uu (ci (varg vs 0)/65536)) vs),S0] (.reg [S0,S0] (.reg [S0] (.condT (.reg [S0,S0, .gen [] (fun vs=>Sx.one (uu (ci (varg vs 0)%65536)) vs), .gen [] (fun vs=>Sx.one (.int .i64 (ci (varg vs 0))) vs), .sem [.nw 1], .specw [20,1] [20,1] (F_app 3),S0] (.reg [S0, .gen [] (fun vs=>Sx.one (uu (ci (varg vs 0)/65536)) vs),S0] (.reg [S0,S0] (.reg [S0] (.condF (.reg [S0,S0] (.reg [S0] (.condT (.reg [S0,S0] (.reg [S0] (.reg [S0] (.condT (.reg [S0,S0, .gen [] (fun vs=>Sx.one (uu (ci (varg vs 0)%65536)) vs), .gen [] (fun vs=>Sx.one (.int .i64 (ci (varg vs 0))) vs), .sem [.nw 1], .specw [20,1] [20,1] (F_app 3),S0] (.reg [S0, .gen [] (fun vs=>Sx.one (uu (ci (varg vs 0)/65536)) vs),S0] (.reg [S0,S0] (.reg [S0] (.condT (.reg [S0,S0, .gen [] (fun vs=>Sx.one (uu (ci (varg vs 0)%65536)) vs), .gen [] (fun vs=>Sx.one (.int .i64 (ci (varg vs 0))) vs), .sem [.nw 1], .specw [20,1] [20,1] (F_app 3),S0] (.reg [S0, .gen [] (fun vs=>Sx.one (uu (ci (varg vs 0)/65536)) vs),S0] (.reg [S0,S0] (.reg [S0] (.condT (.reg [S0,S0, .gen [] (fun vs=>Sx.one (uu (ci (varg vs 0)%65536)) vs), .gen [] (fun vs=>Sx.one (.int .i64 (ci (varg vs 0))) vs), .sem [.nw 1], .specw [20,1] [20,1] (F_app 3),S0] (.reg [S0, .gen [] (fun vs=>Sx.one (uu (ci (varg vs 0)/65536)) vs),S0] (.reg [S0,S0] (.reg [S0] (.condT (.reg [S0,S0, .gen [] (fun vs=>Sx.one (uu (ci (varg vs 0)%65536)) vs), .gen [] (fun vs=>Sx.one (.int .i64 (ci (varg vs 0))) vs), .sem [.nw 1], .specw [20,1] [20,1] (F_app 3),S0] (.reg [S0, .gen [] (fun vs=>Sx.one (uu (ci (varg vs 0)/65536)) vs),S0] (.reg [S0,S0] (.reg [S0] (.condF (.reg [S0,S0] (.reg [S0] (.condF (.reg [S0, .callw [20] [20] ref1_Trim_C,S0] (.done)))))))))))))))))))))))))))))))))))))))))))))))))))))))))))))))))))))))))))))))))))))))))))))))))))))))))))))))))))
    (init za zh) (finW Tryz.prog Tryz.f43 [] [20] (X:=Row) zv zu zp))=
    (∀b1:Nat,rdQ 4 b1 ((true=true)/\(true=true)/\(∃_:Unit,True/\uu (Int.tmod (lim a 0) 65536)=uu ((lim a 0)%65536))/\ ∀_:Unit,(True)->(∃_:Unit,True/\Value.int .i64 (IntKind.i64.wrap ((lim a 0)%65536))= .int .i64 ((lim a 0)%65536))/\ ∀_:Unit,(True)-> ∀b2:Nat,opQ Tryz.prog (vS (Builtin.append_ #[92,92] 92 #[sv Row.nil, .slice (some ⟨b2,0,none⟩) 1 1])) [.free,bk b2 #[.int .i64 ((lim a 0)%65536)] 3] Row (fun zx=>sv zx) (fun zx=> [(ss 3 zx),bk b2 #[.int .i64 ((lim a 0)%65536)] 3]) (fun zx=>vals zx=rvals (sv Row.nil) (ss 3 Row.nil)++ [.int .i64 ((lim a 0)%65536)]) (fun x3=>(∃_:Unit,True/\uu (IntKind.u64.wrap (Int.tdiv (lim a 0) 65536))=uu ((lim a 0)/65536))/\ ∀_:Unit,(True)->(true=true)/\(∃_:Unit,True/\uu (Int.tmod ((lim a 0)/65536) 65536)=uu (((lim a 0)/65536)%65536))/\ ∀_:Unit,(True)->(∃_:Unit,True/\Value.int .i64 (IntKind.i64.wrap (((lim a 0)/65536)%65536))= .int .i64 (((lim a 0)/65536)%65536))/\ ∀_:Unit,(True)-> ∀b4:Nat,opQ Tryz.prog (vS (Builtin.append_ #[92,92] 92 #[sv x3, .slice (some ⟨b4,0,none⟩) 1 1])) [(ss 3 x3),bk b4 #[.int .i64 (((lim a 0)/65536)%65536)] 3] Row (fun zx=>sv zx) (fun zx=> [(ss 3 zx),bk b4 #[.int .i64 (((lim a 0)/65536)%65536)] 3]) (fun zx=>vals zx=rvals (sv x3) (ss 3 x3)++ [.int .i64 (((lim a 0)/65536)%65536)]) (fun x5=>(∃_:Unit,True/\uu (IntKind.u64.wrap (Int.tdiv ((lim a 0)/65536) 65536))=uu (((lim a 0)/65536)/65536))/\ ∀_:Unit,(True)->(true=true)/\(∃_:Unit,True/\uu (Int.tmod (((lim a 0)/65536)/65536) 65536)=uu ((((lim a 0)/65536)/65536)%65536))/\ ∀_:Unit,(True)->(∃_:Unit,True/\Value.int .i64 (IntKind.i64.wrap ((((lim a 0)/65536)/65536)%65536))= .int .i64 ((((lim a 0)/65536)/65536)%65536))/\ ∀_:Unit,(True)-> ∀b6:Nat,opQ Tryz.prog (vS (Builtin.append_ #[92,92] 92 #[sv x5, .slice (some ⟨b6,0,none⟩) 1 1])) [(ss 3 x5),bk b6 #[.int .i64 ((((lim a 0)/65536)/65536)%65536)] 3] Row (fun zx=>sv zx) (fun zx=> [(ss 3 zx),bk b6 #[.int .i64 ((((lim a 0)/65536)/65536)%65536)] 3]) (fun zx=>vals zx=rvals (sv x5) (ss 3 x5)++ [.int .i64 ((((lim a 0)/65536)/65536)%65536)]) (fun x7=>(∃_:Unit,True/\uu (IntKind.u64.wrap (Int.tdiv (((lim a 0)/65536)/65536) 65536))=uu ((((lim a 0)/65536)/65536)/65536))/\ ∀_:Unit,(True)->(true=true)/\(∃_:Unit,True/\uu (Int.tmod ((((lim a 0)/65536)/65536)/65536) 65536)=uu (((((lim a 0)/65536)/65536)/65536)%65536))/\ ∀_:Unit,(True)->(∃_:Unit,True/\Value.int .i64 (IntKind.i64.wrap (((((lim a 0)/65536)/65536)/65536)%65536))= .int .i64 (((((lim a 0)/65536)/65536)/65536)%65536))/\ ∀_:Unit,(True)-> ∀b8:Nat,opQ Tryz.prog (vS (Builtin.append_ #[92,92] 92 #[sv x7, .slice (some ⟨b8,0,none⟩) 1 1])) [(ss 3 x7),bk b8 #[.int .i64 (((((lim a 0)/65536)/65536)/65536)%65536)] 3] Row (fun zx=>sv zx) (fun zx=> [(ss 3 zx),bk b8 #[.int .i64 (((((lim a 0)/65536)/65536)/65536)%65536)] 3]) (fun zx=>vals zx=rvals (sv x7) (ss 3 x7)++ [.int .i64 (((((lim a 0)/65536)/65536)/65536)%65536)]) (fun x9=>(∃_:Unit,True/\uu (IntKind.u64.wrap (Int.tdiv ((((lim a 0)/65536)/65536)/65536) 65536))=uu (((((lim a 0)/65536)/65536)/65536)/65536))/\ ∀_:Unit,(True)->(false=false)/\(true=true)/\(true=true)/\(∃_:Unit,True/\uu (Int.tmod (lim a 1) 65536)=uu ((lim a 1)%65536))/\ ∀_:Unit,(True)->(∃_:Unit,True/\Value.int .i64 (IntKind.i64.wrap ((lim a 1)%65536))= .int .i64 ((lim a 1)%65536))/\ ∀_:Unit,(True)-> ∀b10:Nat,opQ Tryz.prog (vS (Builtin.append_ #[92,92] 92 #[sv x9, .slice (some ⟨b10,0,none⟩) 1 1])) [(ss 3 x9),bk b10 #[.int .i64 ((lim a 1)%65536)] 3] Row (fun zx=>sv zx) (fun zx=> [(ss 3 zx),bk b10 #[.int .i64 ((lim a 1)%65536)] 3]) (fun zx=>vals zx=rvals (sv x9) (ss 3 x9)++ [.int .i64 ((lim a 1)%65536)]) (fun x11=>(∃_:Unit,True/\uu (IntKind.u64.wrap (Int.tdiv (lim a 1) 65536))=uu ((lim a 1)/65536))/\ ∀_:Unit,(True)->(true=true)/\(∃_:Unit,True/\uu (Int.tmod ((lim a 1)/65536) 65536)=uu (((lim a 1)/65536)%65536))/\ ∀_:Unit,(True)->(∃_:Unit,True/\Value.int .i64 (IntKind.i64.wrap (((lim a 1)/65536)%65536))= .int .i64 (((lim a 1)/65536)%65536))/\ ∀_:Unit,(True)-> ∀b12:Nat,opQ Tryz.prog (vS (Builtin.append_ #[92,92] 92 #[sv x11, .slice (some ⟨b12,0,none⟩) 1 1])) [(ss 3 x11),bk b12 #[.int .i64 (((lim a 1)/65536)%65536)] 3] Row (fun zx=>sv zx) (fun zx=> [(ss 3 zx),bk b12 #[.int .i64 (((lim a 1)/65536)%65536)] 3]) (fun zx=>vals zx=rvals (sv x11) (ss 3 x11)++ [.int .i64 (((lim a 1)/65536)%65536)]) (fun x13=>(∃_:Unit,True/\uu (IntKind.u64.wrap (Int.tdiv ((lim a 1)/65536) 65536))=uu (((lim a 1)/65536)/65536))/\ ∀_:Unit,(True)->(true=true)/\(∃_:Unit,True/\uu (Int.tmod (((lim a 1)/65536)/65536) 65536)=uu ((((lim a 1)/65536)/65536)%65536))/\ ∀_:Unit,(True)->(∃_:Unit,True/\Value.int .i64 (IntKind.i64.wrap ((((lim a 1)/65536)/65536)%65536))= .int .i64 ((((lim a 1)/65536)/65536)%65536))/\ ∀_:Unit,(True)-> ∀b14:Nat,opQ Tryz.prog (vS (Builtin.append_ #[92,92] 92 #[sv x13, .slice (some ⟨b14,0,none⟩) 1 1])) [(ss 3 x13),bk b14 #[.int .i64 ((((lim a 1)/65536)/65536)%65536)] 3] Row (fun zx=>sv zx) (fun zx=> [(ss 3 zx),bk b14 #[.int .i64 ((((lim a 1)/65536)/65536)%65536)] 3]) (fun zx=>vals zx=rvals (sv x13) (ss 3 x13)++ [.int .i64 ((((lim a 1)/65536)/65536)%65536)]) (fun x15=>(∃_:Unit,True/\uu (IntKind.u64.wrap (Int.tdiv (((lim a 1)/65536)/65536) 65536))=uu ((((lim a 1)/65536)/65536)/65536))/\ ∀_:Unit,(True)->(true=true)/\(∃_:Unit,True/\uu (Int.tmod ((((lim a 1)/65536)/65536)/65536) 65536)=uu (((((lim a 1)/65536)/65536)/65536)%65536))/\ ∀_:Unit,(True)->(∃_:Unit,True/\Value.int .i64 (IntKind.i64.wrap (((((lim a 1)/65536)/65536)/65536)%65536))= .int .i64 (((((lim a 1)/65536)/65536)/65536)%65536))/\ ∀_:Unit,(True)-> ∀b16:Nat,opQ Tryz.prog (vS (Builtin.append_ #[92,92] 92 #[sv x15, .slice (some ⟨b16,0,none⟩) 1 1])) [(ss 3 x15),bk b16 #[.int .i64 (((((lim a 1)/65536)/65536)/65536)%65536)] 3] Row (fun zx=>sv zx) (fun zx=> [(ss 3 zx),bk b16 #[.int .i64 (((((lim a 1)/65536)/65536)/65536)%65536)] 3]) (fun zx=>vals zx=rvals (sv x15) (ss 3 x15)++ [.int .i64 (((((lim a 1)/65536)/65536)/65536)%65536)]) (fun x17=>(∃_:Unit,True/\uu (IntKind.u64.wrap (Int.tdiv ((((lim a 1)/65536)/65536)/65536) 65536))=uu (((((lim a 1)/65536)/65536)/65536)/65536))/\ ∀_:Unit,(True)->(false=false)/\(true=true)/\(true=true)/\(∃_:Unit,True/\uu (Int.tmod (lim a 2) 65536)=uu ((lim a 2)%65536))/\ ∀_:Unit,(True)->(∃_:Unit,True/\Value.int .i64 (IntKind.i64.wrap ((lim a 2)%65536))= .int .i64 ((lim a 2)%65536))/\ ∀_:Unit,(True)-> ∀b18:Nat,opQ Tryz.prog (vS (Builtin.append_ #[92,92] 92 #[sv x17, .slice (some ⟨b18,0,none⟩) 1 1])) [(ss 3 x17),bk b18 #[.int .i64 ((lim a 2)%65536)] 3] Row (fun zx=>sv zx) (fun zx=> [(ss 3 zx),bk b18 #[.int .i64 ((lim a 2)%65536)] 3]) (fun zx=>vals zx=rvals (sv x17) (ss 3 x17)++ [.int .i64 ((lim a 2)%65536)]) (fun x19=>(∃_:Unit,True/\uu (IntKind.u64.wrap (Int.tdiv (lim a 2) 65536))=uu ((lim a 2)/65536))/\ ∀_:Unit,(True)->(true=true)/\(∃_:Unit,True/\uu (Int.tmod ((lim a 2)/65536) 65536)=uu (((lim a 2)/65536)%65536))/\ ∀_:Unit,(True)->(∃_:Unit,True/\Value.int .i64 (IntKind.i64.wrap (((lim a 2)/65536)%65536))= .int .i64 (((lim a 2)/65536)%65536))/\ ∀_:Unit,(True)-> ∀b20:Nat,opQ Tryz.prog (vS (Builtin.append_ #[92,92] 92 #[sv x19, .slice (some ⟨b20,0,none⟩) 1 1])) [(ss 3 x19),bk b20 #[.int .i64 (((lim a 2)/65536)%65536)] 3] Row (fun zx=>sv zx) (fun zx=> [(ss 3 zx),bk b20 #[.int .i64 (((lim a 2)/65536)%65536)] 3]) (fun zx=>vals zx=rvals (sv x19) (ss 3 x19)++ [.int .i64 (((lim a 2)/65536)%65536)]) (fun x21=>(∃_:Unit,True/\uu (IntKind.u64.wrap (Int.tdiv ((lim a 2)/65536) 65536))=uu (((lim a 2)/65536)/65536))/\ ∀_:Unit,(True)->(true=true)/\(∃_:Unit,True/\uu (Int.tmod (((lim a 2)/65536)/65536) 65536)=uu ((((lim a 2)/65536)/65536)%65536))/\ ∀_:Unit,(True)->(∃_:Unit,True/\Value.int .i64 (IntKind.i64.wrap ((((lim a 2)/65536)/65536)%65536))= .int .i64 ((((lim a 2)/65536)/65536)%65536))/\ ∀_:Unit,(True)-> ∀b22:Nat,opQ Tryz.prog (vS (Builtin.append_ #[92,92] 92 #[sv x21, .slice (some ⟨b22,0,none⟩) 1 1])) [(ss 3 x21),bk b22 #[.int .i64 ((((lim a 2)/65536)/65536)%65536)] 3] Row (fun zx=>sv zx) (fun zx=> [(ss 3 zx),bk b22 #[.int .i64 ((((lim a 2)/65536)/65536)%65536)] 3]) (fun zx=>vals zx=rvals (sv x21) (ss 3 x21)++ [.int .i64 ((((lim a 2)/65536)/65536)%65536)]) (fun x23=>(∃_:Unit,True/\uu (IntKind.u64.wrap (Int.tdiv (((lim a 2)/65536)/65536) 65536))=uu ((((lim a 2)/65536)/65536)/65536))/\ ∀_:Unit,(True)->(true=true)/\(∃_:Unit,True/\uu (Int.tmod ((((lim a 2)/65536)/65536)/65536) 65536)=uu (((((lim a 2)/65536)/65536)/65536)%65536))/\ ∀_:Unit,(True)->(∃_:Unit,True/\Value.int .i64 (IntKind.i64.wrap (((((lim a 2)/65536)/65536)/65536)%65536))= .int .i64 (((((lim a 2)/65536)/65536)/65536)%65536))/\ ∀_:Unit,(True)-> ∀b24:Nat,opQ Tryz.prog (vS (Builtin.append_ #[92,92] 92 #[sv x23, .slice (some ⟨b24,0,none⟩) 1 1])) [(ss 3 x23),bk b24 #[.int .i64 (((((lim a 2)/65536)/65536)/65536)%65536)] 3] Row (fun zx=>sv zx) (fun zx=> [(ss 3 zx),bk b24 #[.int .i64 (((((lim a 2)/65536)/65536)/65536)%65536)] 3]) (fun zx=>vals zx=rvals (sv x23) (ss 3 x23)++ [.int .i64 (((((lim a 2)/65536)/65536)/65536)%65536)]) (fun x25=>(∃_:Unit,True/\uu (IntKind.u64.wrap (Int.tdiv ((((lim a 2)/65536)/65536)/65536) 65536))=uu (((((lim a 2)/65536)/65536)/65536)/65536))/\ ∀_:Unit,(True)->(false=false)/\(true=true)/\(true=true)/\(∃_:Unit,True/\uu (Int.tmod (lim a 3) 65536)=uu ((lim a 3)%65536))/\ ∀_:Unit,(True)->(∃_:Unit,True/\Value.int .i64 (IntKind.i64.wrap ((lim a 3)%65536))= .int .i64 ((lim a 3)%65536))/\ ∀_:Unit,(True)-> ∀b26:Nat,opQ Tryz.prog (vS (Builtin.append_ #[92,92] 92 #[sv x25, .slice (some ⟨b26,0,none⟩) 1 1])) [(ss 3 x25),bk b26 #[.int .i64 ((lim a 3)%65536)] 3] Row (fun zx=>sv zx) (fun zx=> [(ss 3 zx),bk b26 #[.int .i64 ((lim a 3)%65536)] 3]) (fun zx=>vals zx=rvals (sv x25) (ss 3 x25)++ [.int .i64 ((lim a 3)%65536)]) (fun x27=>(∃_:Unit,True/\uu (IntKind.u64.wrap (Int.tdiv (lim a 3) 65536))=uu ((lim a 3)/65536))/\ ∀_:Unit,(True)->(true=true)/\(∃_:Unit,True/\uu (Int.tmod ((lim a 3)/65536) 65536)=uu (((lim a 3)/65536)%65536))/\ ∀_:Unit,(True)->(∃_:Unit,True/\Value.int .i64 (IntKind.i64.wrap (((lim a 3)/65536)%65536))= .int .i64 (((lim a 3)/65536)%65536))/\ ∀_:Unit,(True)-> ∀b28:Nat,opQ Tryz.prog (vS (Builtin.append_ #[92,92] 92 #[sv x27, .slice (some ⟨b28,0,none⟩) 1 1])) [(ss 3 x27),bk b28 #[.int .i64 (((lim a 3)/65536)%65536)] 3] Row (fun zx=>sv zx) (fun zx=> [(ss 3 zx),bk b28 #[.int .i64 (((lim a 3)/65536)%65536)] 3]) (fun zx=>vals zx=rvals (sv x27) (ss 3 x27)++ [.int .i64 (((lim a 3)/65536)%65536)]) (fun x29=>(∃_:Unit,True/\uu (IntKind.u64.wrap (Int.tdiv ((lim a 3)/65536) 65536))=uu (((lim a 3)/65536)/65536))/\ ∀_:Unit,(True)->(true=true)/\(∃_:Unit,True/\uu (Int.tmod (((lim a 3)/65536)/65536) 65536)=uu ((((lim a 3)/65536)/65536)%65536))/\ ∀_:Unit,(True)->(∃_:Unit,True/\Value.int .i64 (IntKind.i64.wrap ((((lim a 3)/65536)/65536)%65536))= .int .i64 ((((lim a 3)/65536)/65536)%65536))/\ ∀_:Unit,(True)-> ∀b30:Nat,opQ Tryz.prog (vS (Builtin.append_ #[92,92] 92 #[sv x29, .slice (some ⟨b30,0,none⟩) 1 1])) [(ss 3 x29),bk b30 #[.int .i64 ((((lim a 3)/65536)/65536)%65536)] 3] Row (fun zx=>sv zx) (fun zx=> [(ss 3 zx),bk b30 #[.int .i64 ((((lim a 3)/65536)/65536)%65536)] 3]) (fun zx=>vals zx=rvals (sv x29) (ss 3 x29)++ [.int .i64 ((((lim a 3)/65536)/65536)%65536)]) (fun x31=>(∃_:Unit,True/\uu (IntKind.u64.wrap (Int.tdiv (((lim a 3)/65536)/65536) 65536))=uu ((((lim a 3)/65536)/65536)/65536))/\ ∀_:Unit,(True)->(true=true)/\(∃_:Unit,True/\uu (Int.tmod ((((lim a 3)/65536)/65536)/65536) 65536)=uu (((((lim a 3)/65536)/65536)/65536)%65536))/\ ∀_:Unit,(True)->(∃_:Unit,True/\Value.int .i64 (IntKind.i64.wrap (((((lim a 3)/65536)/65536)/65536)%65536))= .int .i64 (((((lim a 3)/65536)/65536)/65536)%65536))/\ ∀_:Unit,(True)-> ∀b32:Nat,opQ Tryz.prog (vS (Builtin.append_ #[92,92] 92 #[sv x31, .slice (some ⟨b32,0,none⟩) 1 1])) [(ss 3 x31),bk b32 #[.int .i64 (((((lim a 3)/65536)/65536)/65536)%65536)] 3] Row (fun zx=>sv zx) (fun zx=> [(ss 3 zx),bk b32 #[.int .i64 (((((lim a 3)/65536)/65536)/65536)%65536)] 3]) (fun zx=>vals zx=rvals (sv x31) (ss 3 x31)++ [.int .i64 (((((lim a 3)/65536)/65536)/65536)%65536)]) (fun x33=>(∃_:Unit,True/\uu (IntKind.u64.wrap (Int.tdiv ((((lim a 3)/65536)/65536)/65536) 65536))=uu (((((lim a 3)/65536)/65536)/65536)/65536))/\ ∀_:Unit,(True)->(false=false)/\(false=false)/\ref1_Trim_K x33 (fun x34=>ref2_Row_Q a (sv x34) (ss 3 x34)))))))))))))))))))):=by kernel_rfl
set_option maxRecDepth 100000 in
set_option maxHeartbeats 2000000 in
theorem ref2_Row (a:Int) (r_a:R4 a):ref2_Row_A a (fun za zh zv zu zp=>CallT Tryz.prog 43 za zh Row zv zu zp):=by
  refine call_of (c:=bodyOf Tryz.f43) (n:=24) (fn:=Tryz.f43) Tryz.mixed Tryz.func43 (by kernel_rfl) (by kernel_rfl) (by kernel_rfl) 2000 _ [] [20] rfl rfl (Eq.mpr (ref2_Row_vc a) ?_)
  have q0:=nil3
  intro b1
  refine rdQ_mk 4 _ ⟨rfl,?_⟩
  have ww:=W_lim a 0
  refine ⟨rfl,⟨⟨(),trivial,congrArg (Value.int .u64) (tmod_nat ww.1)⟩,fun _=>fun _=>⟨⟨(),trivial,congrArg (Value.int .i64) (conv16 _)⟩,fun _=>fun _=>fun b2=>opQ_mk (xappendR Tryz.sl92 92 Row.nil (Nat.le_trans (Nat.le_of_eq q0.2.1) (by decide)) b2 1 (.int .i64 ((lim a 0)%65536)) rfl) (wit_app _) fun x3 h1=> ?_⟩⟩⟩
  rw [rvals_eq] at h1
  have q1:=snoc3 (x:=((lim a 0)%65536)) q0 (show P16 0=1 from rfl) (by assumption) (m16_0 _) (m16_1 _)
  refine ⟨⟨(),trivial,congrArg (Value.int .u64) (quo_u16 ww)⟩,fun _=>fun _=>⟨rfl,⟨⟨(),trivial,congrArg (Value.int .u64) (tmod_nat (W_div ww).1)⟩,fun _=>fun _=>⟨⟨(),trivial,congrArg (Value.int .i64) (conv16 _)⟩,fun _=>fun _=>fun b4=>opQ_mk (xappendR Tryz.sl92 92 x3 (Nat.le_trans (Nat.le_of_eq q1.2.1) (by decide)) b4 1 (.int .i64 (((lim a 0)/65536)%65536)) rfl) (wit_app _) fun x5 h2=> ?_⟩⟩⟩⟩
  rw [rvals_eq] at h2
  have q2:=snoc3 (x:=(((lim a 0)/65536)%65536)) q1 (show P16 1=65536 from rfl) (by assumption) (m16_0 _) (m16_1 _)
  refine ⟨⟨(),trivial,congrArg (Value.int .u64) (quo_u16 (W_div ww))⟩,fun _=>fun _=>⟨rfl,⟨⟨(),trivial,congrArg (Value.int .u64) (tmod_nat (W_div (W_div ww)).1)⟩,fun _=>fun _=>⟨⟨(),trivial,congrArg (Value.int .i64) (conv16 _)⟩,fun _=>fun _=>fun b6=>opQ_mk (xappendR Tryz.sl92 92 x5 (Nat.le_trans (Nat.le_of_eq q2.2.1) (by decide)) b6 1 (.int .i64 ((((lim a 0)/65536)/65536)%65536)) rfl) (wit_app _) fun x7 h3=> ?_⟩⟩⟩⟩
  rw [rvals_eq] at h3
  have q3:=snoc3 (x:=((((lim a 0)/65536)/65536)%65536)) q2 (show P16 2=4294967296 from rfl) (by assumption) (m16_0 _) (m16_1 _)
  refine ⟨⟨(),trivial,congrArg (Value.int .u64) (quo_u16 (W_div (W_div ww)))⟩,fun _=>fun _=>⟨rfl,⟨⟨(),trivial,congrArg (Value.int .u64) (tmod_nat (W_div (W_div (W_div ww))).1)⟩,fun _=>fun _=>⟨⟨(),trivial,congrArg (Value.int .i64) (conv16 _)⟩,fun _=>fun _=>fun b8=>opQ_mk (xappendR Tryz.sl92 92 x7 (Nat.le_trans (Nat.le_of_eq q3.2.1) (by decide)) b8 1 (.int .i64 (((((lim a 0)/65536)/65536)/65536)%65536)) rfl) (wit_app _) fun x9 h4=> ?_⟩⟩⟩⟩
  rw [rvals_eq] at h4
  have q4:=snoc3 (x:=(((((lim a 0)/65536)/65536)/65536)%65536)) q3 (show P16 3=281474976710656 from rfl) (by assumption) (m16_0 _) (m16_1 _)
  refine ⟨⟨(),trivial,congrArg (Value.int .u64) (quo_u16 (W_div (W_div (W_div ww))))⟩,fun _=>fun _=>⟨rfl,⟨rfl,?_⟩⟩⟩
  have ww:=W_lim a 1
  refine ⟨rfl,⟨⟨(),trivial,congrArg (Value.int .u64) (tmod_nat ww.1)⟩,fun _=>fun _=>⟨⟨(),trivial,congrArg (Value.int .i64) (conv16 _)⟩,fun _=>fun _=>fun b10=>opQ_mk (xappendR Tryz.sl92 92 x9 (Nat.le_trans (Nat.le_of_eq q4.2.1) (by decide)) b10 1 (.int .i64 ((lim a 1)%65536)) rfl) (wit_app _) fun x11 h5=> ?_⟩⟩⟩
  rw [rvals_eq] at h5
  have q5:=snoc3 (x:=((lim a 1)%65536)) q4 (show P16 4=18446744073709551616 from rfl) (by assumption) (m16_0 _) (m16_1 _)
  refine ⟨⟨(),trivial,congrArg (Value.int .u64) (quo_u16 ww)⟩,fun _=>fun _=>⟨rfl,⟨⟨(),trivial,congrArg (Value.int .u64) (tmod_nat (W_div ww).1)⟩,fun _=>fun _=>⟨⟨(),trivial,congrArg (Value.int .i64) (conv16 _)⟩,fun _=>fun _=>fun b12=>opQ_mk (xappendR Tryz.sl92 92 x11 (Nat.le_trans (Nat.le_of_eq q5.2.1) (by decide)) b12 1 (.int .i64 (((lim a 1)/65536)%65536)) rfl) (wit_app _) fun x13 h6=> ?_⟩⟩⟩⟩
  rw [rvals_eq] at h6
  have q6:=snoc3 (x:=(((lim a 1)/65536)%65536)) q5 (show P16 5=1208925819614629174706176 from rfl) (by assumption) (m16_0 _) (m16_1 _)
  refine ⟨⟨(),trivial,congrArg (Value.int .u64) (quo_u16 (W_div ww))⟩,fun _=>fun _=>⟨rfl,⟨⟨(),trivial,congrArg (Value.int .u64) (tmod_nat (W_div (W_div ww)).1)⟩,fun _=>fun _=>⟨⟨(),trivial,congrArg (Value.int .i64) (conv16 _)⟩,fun _=>fun _=>fun b14=>opQ_mk (xappendR Tryz.sl92 92 x13 (Nat.le_trans (Nat.le_of_eq q6.2.1) (by decide)) b14 1 (.int .i64 ((((lim a 1)/65536)/65536)%65536)) rfl) (wit_app _) fun x15 h7=> ?_⟩⟩⟩⟩
  rw [rvals_eq] at h7
  have q7:=snoc3 (x:=((((lim a 1)/65536)/65536)%65536)) q6 (show P16 6=79228162514264337593543950336 from rfl) (by assumption) (m16_0 _) (m16_1 _)
  refine ⟨⟨(),trivial,congrArg (Value.int .u64) (quo_u16 (W_div (W_div ww)))⟩,fun _=>fun _=>⟨rfl,⟨⟨(),trivial,congrArg (Value.int .u64) (tmod_nat (W_div (W_div (W_div ww))).1)⟩,fun _=>fun _=>⟨⟨(),trivial,congrArg (Value.int .i64) (conv16 _)⟩,fun _=>fun _=>fun b16=>opQ_mk (xappendR Tryz.sl92 92 x15 (Nat.le_trans (Nat.le_of_eq q7.2.1) (by decide)) b16 1 (.int .i64 (((((lim a 1)/65536)/65536)/65536)%65536)) rfl) (wit_app _) fun x17 h8=> ?_⟩⟩⟩⟩
  rw [rvals_eq] at h8
  have q8:=snoc3 (x:=(((((lim a 1)/65536)/65536)/65536)%65536)) q7 (show P16 7=5192296858534827628530496329220096 from rfl) (by assumption) (m16_0 _) (m16_1 _)
  refine ⟨⟨(),trivial,congrArg (Value.int .u64) (quo_u16 (W_div (W_div (W_div ww))))⟩,fun _=>fun _=>⟨rfl,⟨rfl,?_⟩⟩⟩
  have ww:=W_lim a 2
  refine ⟨rfl,⟨⟨(),trivial,congrArg (Value.int .u64) (tmod_nat ww.1)⟩,fun _=>fun _=>⟨⟨(),trivial,congrArg (Value.int .i64) (conv16 _)⟩,fun _=>fun _=>fun b18=>opQ_mk (xappendR Tryz.sl92 92 x17 (Nat.le_trans (Nat.le_of_eq q8.2.1) (by decide)) b18 1 (.int .i64 ((lim a 2)%65536)) rfl) (wit_app _) fun x19 h9=> ?_⟩⟩⟩
  rw [rvals_eq] at h9
  have q9:=snoc3 (x:=((lim a 2)%65536)) q8 (show P16 8=340282366920938463463374607431768211456 from rfl) (by assumption) (m16_0 _) (m16_1 _)
  refine ⟨⟨(),trivial,congrArg (Value.int .u64) (quo_u16 ww)⟩,fun _=>fun _=>⟨rfl,⟨⟨(),trivial,congrArg (Value.int .u64) (tmod_nat (W_div ww).1)⟩,fun _=>fun _=>⟨⟨(),trivial,congrArg (Value.int .i64) (conv16 _)⟩,fun _=>fun _=>fun b20=>opQ_mk (xappendR Tryz.sl92 92 x19 (Nat.le_trans (Nat.le_of_eq q9.2.1) (by decide)) b20 1 (.int .i64 (((lim a 2)/65536)%65536)) rfl) (wit_app _) fun x21 h10=> ?_⟩⟩⟩⟩
  rw [rvals_eq] at h10
  have q10:=snoc3 (x:=(((lim a 2)/65536)%65536)) q9 (show P16 9=22300745198530623141535718272648361505980416 from rfl) (by assumption) (m16_0 _) (m16_1 _)
  refine ⟨⟨(),trivial,congrArg (Value.int .u64) (quo_u16 (W_div ww))⟩,fun _=>fun _=>⟨rfl,⟨⟨(),trivial,congrArg (Value.int .u64) (tmod_nat (W_div (W_div ww)).1)⟩,fun _=>fun _=>⟨⟨(),trivial,congrArg (Value.int .i64) (conv16 _)⟩,fun _=>fun _=>fun b22=>opQ_mk (xappendR Tryz.sl92 92 x21 (Nat.le_trans (Nat.le_of_eq q10.2.1) (by decide)) b22 1 (.int .i64 ((((lim a 2)/65536)/65536)%65536)) rfl) (wit_app _) fun x23 h11=> ?_⟩⟩⟩⟩
  rw [rvals_eq] at h11
  have q11:=snoc3 (x:=((((lim a 2)/65536)/65536)%65536)) q10 (show P16 10=1461501637330902918203684832716283019655932542976 from rfl) (by assumption) (m16_0 _) (m16_1 _)
  refine ⟨⟨(),trivial,congrArg (Value.int .u64) (quo_u16 (W_div (W_div ww)))⟩,fun _=>fun _=>⟨rfl,⟨⟨(),trivial,congrArg (Value.int .u64) (tmod_nat (W_div (W_div (W_div ww))).1)⟩,fun _=>fun _=>⟨⟨(),trivial,congrArg (Value.int .i64) (conv16 _)⟩,fun _=>fun _=>fun b24=>opQ_mk (xappendR Tryz.sl92 92 x23 (Nat.le_trans (Nat.le_of_eq q11.2.1) (by decide)) b24 1 (.int .i64 (((((lim a 2)/65536)/65536)/65536)%65536)) rfl) (wit_app _) fun x25 h12=> ?_⟩⟩⟩⟩
  rw [rvals_eq] at h12
  have q12:=snoc3 (x:=(((((lim a 2)/65536)/65536)/65536)%65536)) q11 (show P16 11=95780971304118053647396689196894323976171195136475136 from rfl) (by assumption) (m16_0 _) (m16_1 _)
  refine ⟨⟨(),trivial,congrArg (Value.int .u64) (quo_u16 (W_div (W_div (W_div ww))))⟩,fun _=>fun _=>⟨rfl,⟨rfl,?_⟩⟩⟩
  have ww:=W_lim a 3
  refine ⟨rfl,⟨⟨(),trivial,congrArg (Value.int .u64) (tmod_nat ww.1)⟩,fun _=>fun _=>⟨⟨(),trivial,congrArg (Value.int .i64) (conv16 _)⟩,fun _=>fun _=>fun b26=>opQ_mk (xappendR Tryz.sl92 92 x25 (Nat.le_trans (Nat.le_of_eq q12.2.1) (by decide)) b26 1 (.int .i64 ((lim a 3)%65536)) rfl) (wit_app _) fun x27 h13=> ?_⟩⟩⟩
  rw [rvals_eq] at h13
  have q13:=snoc3 (x:=((lim a 3)%65536)) q12 (show P16 12=6277101735386680763835789423207666416102355444464034512896 from rfl) (by assumption) (m16_0 _) (m16_1 _)
  refine ⟨⟨(),trivial,congrArg (Value.int .u64) (quo_u16 ww)⟩,fun _=>fun _=>⟨rfl,⟨⟨(),trivial,congrArg (Value.int .u64) (tmod_nat (W_div ww).1)⟩,fun _=>fun _=>⟨⟨(),trivial,congrArg (Value.int .i64) (conv16 _)⟩,fun _=>fun _=>fun b28=>opQ_mk (xappendR Tryz.sl92 92 x27 (Nat.le_trans (Nat.le_of_eq q13.2.1) (by decide)) b28 1 (.int .i64 (((lim a 3)/65536)%65536)) rfl) (wit_app _) fun x29 h14=> ?_⟩⟩⟩⟩
  rw [rvals_eq] at h14
  have q14:=snoc3 (x:=(((lim a 3)/65536)%65536)) q13 (show P16 13=411376139330301510538742295639337626245683966408394965837152256 from rfl) (by assumption) (m16_0 _) (m16_1 _)
  refine ⟨⟨(),trivial,congrArg (Value.int .u64) (quo_u16 (W_div ww))⟩,fun _=>fun _=>⟨rfl,⟨⟨(),trivial,congrArg (Value.int .u64) (tmod_nat (W_div (W_div ww)).1)⟩,fun _=>fun _=>⟨⟨(),trivial,congrArg (Value.int .i64) (conv16 _)⟩,fun _=>fun _=>fun b30=>opQ_mk (xappendR Tryz.sl92 92 x29 (Nat.le_trans (Nat.le_of_eq q14.2.1) (by decide)) b30 1 (.int .i64 ((((lim a 3)/65536)/65536)%65536)) rfl) (wit_app _) fun x31 h15=> ?_⟩⟩⟩⟩
  rw [rvals_eq] at h15
  have q15:=snoc3 (x:=((((lim a 3)/65536)/65536)%65536)) q14 (show P16 14=26959946667150639794667015087019630673637144422540572481103610249216 from rfl) (by assumption) (m16_0 _) (m16_1 _)
  refine ⟨⟨(),trivial,congrArg (Value.int .u64) (quo_u16 (W_div (W_div ww)))⟩,fun _=>fun _=>⟨rfl,⟨⟨(),trivial,congrArg (Value.int .u64) (tmod_nat (W_div (W_div (W_div ww))).1)⟩,fun _=>fun _=>⟨⟨(),trivial,congrArg (Value.int .i64) (conv16 _)⟩,fun _=>fun _=>fun b32=>opQ_mk (xappendR Tryz.sl92 92 x31 (Nat.le_trans (Nat.le_of_eq q15.2.1) (by decide)) b32 1 (.int .i64 (((((lim a 3)/65536)/65536)/65536)%65536)) rfl) (wit_app _) fun x33 h16=> ?_⟩⟩⟩⟩
  rw [rvals_eq] at h16
  have q16:=snoc3 (x:=(((((lim a 3)/65536)/65536)/65536)%65536)) q15 (show P16 15=1766847064778384329583297500742918515827483896875618958121606201292619776 from rfl) (by assumption) (m16_0 _) (m16_1 _)
  refine ⟨⟨(),trivial,congrArg (Value.int .u64) (quo_u16 (W_div (W_div (W_div ww))))⟩,fun _=>fun _=>⟨rfl,⟨rfl,?_⟩⟩⟩
  obtain ⟨ok16,ql,hq⟩:=q16
  clear q0 q1 q2 q3 q4 q5 q6 q7 q8 q9 q10 q11 q12 q13 q14 q15
  refine ref1_Trim_m x33 (fun x34 rh17_ h17=> ?_)
  unfold ref2_Row_Q
  have T:TrimR (dg x33) (dg x34):=by first | exact And.right (by assumption) | assumption
  have w0:=limb_digits (W_lim a 0)
  have w1:=limb_digits (W_lim a 1)
  have w2:=limb_digits (W_lim a 2)
  have w3:=limb_digits (W_lim a 3)
  have ea:=lims a
  rw [num_vI r_a] at ea
  have hn:nv (dg x34)=a:=by
    rw [T.eq,hq]
    refine Eq.trans ?_ ea.symm
    clear hq ea
    omega
  exact ⟨_,⟨by assumption,by rw [num_vI r_a];exact hn,T.canon,num_len (RowOK.dig (by assumption)) T.canon hn r_a⟩,rfl,rfl,trivial⟩
abbrev ref2_Row_K (a:Int) (KK:Row->Prop):Prop:=ref2_Row_A a (fun za zh zv zu zp=>callQ Tryz.prog 43 za zh Row zv zu zp KK)
theorem ref2_Row_m (a:Int) {KK:Row->Prop} (kont: ∀zx:Row,RowOK zx->(nv (dg zx)=a/\Canon (dg zx)/\(dg zx).length<=16)->KK zx) (r_a:R4 a:=by assumption):ref2_Row_K a KK:=callQ_mk (ref2_Row a r_a) (wit_num (by first | exact R4_num _ | exact r_a)) fun zx hz=>by
  obtain ⟨rhz_,hz⟩:=hz
  try simp only [num_vI (n:=a) r_a] at hz
  exact kont zx rhz_ hz
noncomputable def ref2_Int_C:List Value->List Slot->Ctr:=fun vs hs=>⟨Int×Bool,fun zx=> .tuple #[vI zx.1, .bool zx.2],fun zx=> [(sarg hs 0)],fun zx=>R4 zx.1/\zx=rInt (nv (rdv (varg vs 1) (sarg hs 0)))⟩
abbrev ref2_Int_Q (a:Row) (zv:Value) (zs0:Slot):Prop:= ∃zx:Int×Bool,(R4 zx.1/\zx=rInt (nv (rdv (sv a) (ss 3 a))))/\zv= .tuple #[vI zx.1, .bool zx.2]/\zs0=(ss 3 a)/\True
abbrev ref2_Int_A (a:Row) (zF:SF (Int×Bool)):Prop:=zF #[sv a] [(ss 3 a)] (fun zx=> .tuple #[vI zx.1, .bool zx.2]) (fun zx=> [(ss 3 a)]) (fun zx=>(R4 zx.1/\zx=rInt (nv (rdv (sv a) (ss 3 a)))))
set_option maxRecDepth 100000 in
set_option maxHeartbeats 2000000 in
theorem ref2_Int_vc (a:Row):ref2_Int_A a (fun za zh zv zu zp=>codeW Tryz.prog 34 none 2000 none (bodyOf Tryz.f59) (.reg [.sem [.nw 1],S0] (.reg [S0, .callw [0] [0] ref1_Trim_C,S0] (.reg [S0, .eq (f_len),S0] (.cond (.reg [S0, .sem (wrs 4 1),S0] (.done)) (.reg [.sem [.nw 2]] (.reg [S0, .eq (f_len), .gen [] (fun vs=>Sx.one (.int .i64 (ci (varg vs 0) - ci (varg vs 1))) vs),S0] (.inv (Nat×Row×Nat×Nat) (fun zx=> [(0,sv zx.2.1),(4,pp zx.2.2.1 0),(5, .int .i64 (((zx.1:Nat):Int) - 1)),(2,pp zx.2.2.2 0)]) (fun zx=> [(0,(ss 3 zx.2.1)),(2,bk zx.2.2.1 #[uu (lb (dg zx.2.1) zx.1 0),uu (lb (dg zx.2.1) zx.1 1),uu (lb (dg zx.2.1) zx.1 2),uu (lb (dg zx.2.1) zx.1 3)] 29),(1,bk zx.2.2.2 #[uu 0,uu 0,uu 0,uu 0] 29)]) (fun zx=>zx.1<=(dg zx.2.1).length/\RowOK zx.2.1/\TrimR (dg a) (dg zx.2.1)/\ss 3 zx.2.1=ss 3 a/\(dg zx.2.1).length<=16) (fun zx=>zx.1) (fun x4=> .reg [S0,S0] (.cond (.caseP (fun s=>decide (((ci (s.fr 5)))/4=0)) (.reg [S0, .gen [] (fun vs=>Sx.one (.int .i64 0) vs),S0, .gen [] (fun vs=>Sx.one (.int .i64 0) vs),S0, .sem [.rd 2], .gen [] (fun vs=>Sx.one (uu (ci (varg vs 0)*ci (varg vs 1))) vs),S0,S0, .eq (f_idx), .specr [0] F_get, .gen [] (fun vs=>Sx.one (uu (ci (varg vs 0))) vs), .gen [] (fun vs=>Sx.one (uu (ci (varg vs 0)+ci (varg vs 1))) vs),S0, .sem [.wr 2]] (.reg [S0, .gen [] (fun vs=>Sx.one (.int .i64 (ci (varg vs 0) - ci (varg vs 1))) vs),S0] (.done))) (.caseP (fun s=>decide (((ci (s.fr 5)))/4=1)) (.reg [S0, .gen [] (fun vs=>Sx.one (.int .i64 1) vs),S0, .gen [] (fun vs=>Sx.one (.int .i64 1) vs),S0, .sem [.rd 2], .gen [] (fun vs=>Sx.one (uu (ci (varg vs 0)*ci (varg vs 1))) vs),S0,S0, .eq (f_idx), .specr [0] F_get, .gen [] (fun vs=>Sx.one (uu (ci (varg vs 0))) vs), .gen [] (fun vs=>Sx.one (uu (ci (varg vs 0)+ci (varg vs 1))) vs),S0, .sem [.wr 2]] (.reg [S0, .gen [] (fun vs=>Sx.one (.int .i64 (ci (varg vs 0) - ci (varg vs 1))) vs),S0] (.done))) (.caseP (fun s=>decide (((ci (s.fr 5)))/4=2)) (.reg [S0, .gen [] (fun vs=>Sx.one (.int .i64 2) vs),S0, .gen [] (fun vs=>Sx.one (.int .i64 2) vs),S0, .sem [.rd 2], .gen [] (fun vs=>Sx.one (uu (ci (varg vs 0)*ci (varg vs 1))) vs),S0,S0, .eq (f_idx), .specr [0] F_get, .gen [] (fun vs=>Sx.one (uu (ci (varg vs 0))) vs), .gen [] (fun vs=>Sx.one (uu (ci (varg vs 0)+ci (varg vs 1))) vs),S0, .sem [.wr 2]] (.reg [S0, .gen [] (fun vs=>Sx.one (.int .i64 (ci (varg vs 0) - ci (varg vs 1))) vs),S0] (.done))) (.reg [S0, .gen [] (fun vs=>Sx.one (.int .i64 3) vs),S0, .gen [] (fun vs=>Sx.one (.int .i64 3) vs),S0, .sem [.rd 2], .gen [] (fun vs=>Sx.one (uu (ci (varg vs 0)*ci (varg vs 1))) vs),S0,S0, .eq (f_idx), .specr [0] F_get, .gen [] (fun vs=>Sx.one (uu (ci (varg vs 0))) vs), .gen [] (fun vs=>Sx.one (uu (ci (varg vs 0)+ci (varg vs 1))) vs),S0, .sem [.wr 2]] (.reg [S0, .gen [] (fun vs=>Sx.one (.int .i64 (ci (varg vs 0) - ci (varg vs 1))) vs),S0] (.done)))))) (.reg [.sem (rds 4 2), .sem (wrs 4 1),S0] (.done)))))))))))
    (init za zh) (finW Tryz.prog Tryz.f59 [.rd 1, .rd 1, .rd 1, .rd 1] [0] (X:=Int×Bool) zv zu zp))=
    (∀b1:Nat,ref1_Trim_K a (fun x2=>(PureRun Tryz.prog (vS (Builtin.len_ #[92] 3 #[sv x2])) (.int .i64 ((vlen (sv x2):Nat):Int)))/\((decide (((vlen (sv x2):Nat):Int)>(16:Int)))=true->rdQ 4 b1 (rdQ 4 b1 (ref2_Int_Q a (Value.tuple #[.agg #[uu 0,uu 0,uu 0,uu 0], .bool false]) (ss 3 x2))))/\((decide (((vlen (sv x2):Nat):Int)>(16:Int)))=false-> ∀b3:Nat,(PureRun Tryz.prog (vS (Builtin.len_ #[92] 3 #[sv x2])) (.int .i64 ((vlen (sv x2):Nat):Int)))/\(∃_:Unit,True/\Value.int .i64 (IntKind.i64.wrap (((vlen (sv x2):Nat):Int) - 1))= .int .i64 (((vlen (sv x2):Nat):Int) - 1))/\ ∀_:Unit,(True)->(∃zx:Nat×Row×Nat×Nat,(zx.1<=(dg zx.2.1).length/\RowOK zx.2.1/\TrimR (dg a) (dg zx.2.1)/\ss 3 zx.2.1=ss 3 a/\(dg zx.2.1).length<=16)/\sv x2=sv zx.2.1/\pp b3 0=pp zx.2.2.1 0/\Value.int .i64 (((vlen (sv x2):Nat):Int) - 1)= .int .i64 (((zx.1:Nat):Int) - 1)/\pp b1 0=pp zx.2.2.2 0/\(ss 3 x2)=(ss 3 zx.2.1)/\bk b3 #[uu 0,uu 0,uu 0,uu 0] 29=bk zx.2.2.1 #[uu (lb (dg zx.2.1) zx.1 0),uu (lb (dg zx.2.1) zx.1 1),uu (lb (dg zx.2.1) zx.1 2),uu (lb (dg zx.2.1) zx.1 3)] 29/\bk b1 #[uu 0,uu 0,uu 0,uu 0] 29=bk zx.2.2.2 #[uu 0,uu 0,uu 0,uu 0] 29/\True)/\ ∀x4:Nat×Row×Nat×Nat,∀jx4:Nat->Value,(x4.1<=(dg x4.2.1).length/\RowOK x4.2.1/\TrimR (dg a) (dg x4.2.1)/\ss 3 x4.2.1=ss 3 a/\(dg x4.2.1).length<=16)->((decide ((((x4.1:Nat):Int) - 1)≥(0:Int)))=true->((decide ((((x4.1:Nat):Int) - 1)/4=0))=true->(∃_:Unit,True/\Value.int .i64 (IntKind.i64.wrap (Int.tdiv (((x4.1:Nat):Int) - 1) 4))= .int .i64 0)/\ ∀_:Unit,(True)->(∃_:Unit,True/\Value.int .i64 (IntKind.i64.wrap (Int.tdiv (((x4.1:Nat):Int) - 1) 4))= .int .i64 0)/\ ∀_:Unit,(True)->rdQ 1 x4.2.2.1 ((∃_:Unit,True/\uu (IntKind.u64.wrap ((lb (dg x4.2.1) x4.1 0)*65536))=uu ((lb (dg x4.2.1) x4.1 0)*65536))/\ ∀_:Unit,(True)->(PureRun Tryz.prog (vS (Instr.indexAt 92 (sv x4.2.1) (.int .i64 (((x4.1:Nat):Int) - 1)))) (.pointer (some ⟨(vblk (sv x4.2.1)),(Int.toNat (((x4.1:Nat):Int) - 1)),none⟩)))/\opQr Tryz.prog (vS (Instr.loadAt 3 (.pointer (some ⟨(vblk (sv x4.2.1)),(Int.toNat (((x4.1:Nat):Int) - 1)),none⟩)))) [(ss 3 x4.2.1)] Int (fun zx=> .int .i64 zx) (fun zx=>(scells (ss 3 x4.2.1))[(Int.toNat (((x4.1:Nat):Int) - 1))]? =some (.int .i64 zx)) (fun x5=>(∃_:Unit,True/\uu (IntKind.u64.wrap x5)=uu x5)/\ ∀_:Unit,(True)->(∃_:Unit,True/\uu (IntKind.u64.wrap (((lb (dg x4.2.1) x4.1 0)*65536)+x5))=uu (((lb (dg x4.2.1) x4.1 0)*65536)+x5))/\ ∀_:Unit,(True)->rdQ 1 x4.2.2.1 ((∃_:Unit,True/\Value.int .i64 (IntKind.i64.wrap ((((x4.1:Nat):Int) - 1) - 1))= .int .i64 ((((x4.1:Nat):Int) - 1) - 1))/\ ∀_:Unit,(True)-> ∃zy:Nat×Row×Nat×Nat,(zy.1<=(dg zy.2.1).length/\RowOK zy.2.1/\TrimR (dg a) (dg zy.2.1)/\ss 3 zy.2.1=ss 3 a/\(dg zy.2.1).length<=16)/\zy.1<x4.1/\sv x4.2.1=sv zy.2.1/\pp x4.2.2.1 0=pp zy.2.2.1 0/\Value.int .i64 ((((x4.1:Nat):Int) - 1) - 1)= .int .i64 (((zy.1:Nat):Int) - 1)/\pp x4.2.2.2 0=pp zy.2.2.2 0/\(ss 3 x4.2.1)=(ss 3 zy.2.1)/\bk x4.2.2.1 #[uu (((lb (dg x4.2.1) x4.1 0)*65536)+x5),uu (lb (dg x4.2.1) x4.1 1),uu (lb (dg x4.2.1) x4.1 2),uu (lb (dg x4.2.1) x4.1 3)] 29=bk zy.2.2.1 #[uu (lb (dg zy.2.1) zy.1 0),uu (lb (dg zy.2.1) zy.1 1),uu (lb (dg zy.2.1) zy.1 2),uu (lb (dg zy.2.1) zy.1 3)] 29/\bk x4.2.2.2 #[uu 0,uu 0,uu 0,uu 0] 29=bk zy.2.2.2 #[uu 0,uu 0,uu 0,uu 0] 29/\True))))/\((decide ((((x4.1:Nat):Int) - 1)/4=0))=false->((decide ((((x4.1:Nat):Int) - 1)/4=1))=true->(∃_:Unit,True/\Value.int .i64 (IntKind.i64.wrap (Int.tdiv (((x4.1:Nat):Int) - 1) 4))= .int .i64 1)/\ ∀_:Unit,(True)->(∃_:Unit,True/\Value.int .i64 (IntKind.i64.wrap (Int.tdiv (((x4.1:Nat):Int) - 1) 4))= .int .i64 1)/\ ∀_:Unit,(True)->rdQ 1 x4.2.2.1 ((∃_:Unit,True/\uu (IntKind.u64.wrap ((lb (dg x4.2.1) x4.1 1)*65536))=uu ((lb (dg x4.2.1) x4.1 1)*65536))/\ ∀_:Unit,(True)->(PureRun Tryz.prog (vS (Instr.indexAt 92 (sv x4.2.1) (.int .i64 (((x4.1:Nat):Int) - 1)))) (.pointer (some ⟨(vblk (sv x4.2.1)),(Int.toNat (((x4.1:Nat):Int) - 1)),none⟩)))/\opQr Tryz.prog (vS (Instr.loadAt 3 (.pointer (some ⟨(vblk (sv x4.2.1)),(Int.toNat (((x4.1:Nat):Int) - 1)),none⟩)))) [(ss 3 x4.2.1)] Int (fun zx=> .int .i64 zx) (fun zx=>(scells (ss 3 x4.2.1))[(Int.toNat (((x4.1:Nat):Int) - 1))]? =some (.int .i64 zx)) (fun x6=>(∃_:Unit,True/\uu (IntKind.u64.wrap x6)=uu x6)/\ ∀_:Unit,(True)->(∃_:Unit,True/\uu (IntKind.u64.wrap (((lb (dg x4.2.1) x4.1 1)*65536)+x6))=uu (((lb (dg x4.2.1) x4.1 1)*65536)+x6))/\ ∀_:Unit,(True)->rdQ 1 x4.2.2.1 ((∃_:Unit,True/\Value.int .i64 (IntKind.i64.wrap ((((x4.1:Nat):Int) - 1) - 1))= .int .i64 ((((x4.1:Nat):Int) - 1) - 1))/\ ∀_:Unit,(True)-> ∃zy:Nat×Row×Nat×Nat,(zy.1<=(dg zy.2.1).length/\RowOK zy.2.1/\TrimR (dg a) (dg zy.2.1)/\ss 3 zy.2.1=ss 3 a/\(dg zy.2.1).length<=16)/\zy.1<x4.1/\sv x4.2.1=sv zy.2.1/\pp x4.2.2.1 0=pp zy.2.2.1 0/\Value.int .i64 ((((x4.1:Nat):Int) - 1) - 1)= .int .i64 (((zy.1:Nat):Int) - 1)/\pp x4.2.2.2 0=pp zy.2.2.2 0/\(ss 3 x4.2.1)=(ss 3 zy.2.1)/\bk x4.2.2.1 #[uu (lb (dg x4.2.1) x4.1 0),uu (((lb (dg x4.2.1) x4.1 1)*65536)+x6),uu (lb (dg x4.2.1) x4.1 2),uu (lb (dg x4.2.1) x4.1 3)] 29=bk zy.2.2.1 #[uu (lb (dg zy.2.1) zy.1 0),uu (lb (dg zy.2.1) zy.1 1),uu (lb (dg zy.2.1) zy.1 2),uu (lb (dg zy.2.1) zy.1 3)] 29/\bk x4.2.2.2 #[uu 0,uu 0,uu 0,uu 0] 29=bk zy.2.2.2 #[uu 0,uu 0,uu 0,uu 0] 29/\True))))/\((decide ((((x4.1:Nat):Int) - 1)/4=1))=false->((decide ((((x4.1:Nat):Int) - 1)/4=2))=true->(∃_:Unit,True/\Value.int .i64 (IntKind.i64.wrap (Int.tdiv (((x4.1:Nat):Int) - 1) 4))= .int .i64 2)/\ ∀_:Unit,(True)->(∃_:Unit,True/\Value.int .i64 (IntKind.i64.wrap (Int.tdiv (((x4.1:Nat):Int) - 1) 4))= .int .i64 2)/\ ∀_:Unit,(True)->rdQ 1 x4.2.2.1 ((∃_:Unit,True/\uu (IntKind.u64.wrap ((lb (dg x4.2.1) x4.1 2)*65536))=uu ((lb (dg x4.2.1) x4.1 2)*65536))/\ ∀_:Unit,(True)->(PureRun Tryz.prog (vS (Instr.indexAt 92 (sv x4.2.1) (.int .i64 (((x4.1:Nat):Int) - 1)))) (.pointer (some ⟨(vblk (sv x4.2.1)),(Int.toNat (((x4.1:Nat):Int) - 1)),none⟩)))/\opQr Tryz.prog (vS (Instr.loadAt 3 (.pointer (some ⟨(vblk (sv x4.2.1)),(Int.toNat (((x4.1:Nat):Int) - 1)),none⟩)))) [(ss 3 x4.2.1)] Int (fun zx=> .int .i64 zx) (fun zx=>(scells (ss 3 x4.2.1))[(Int.toNat (((x4.1:Nat):Int) - 1))]? =some (.int .i64 zx)) (fun x7=>(∃_:Unit,True/\uu (IntKind.u64.wrap x7)=uu x7)/\ ∀_:Unit,(True)->(∃_:Unit,True/\uu (IntKind.u64.wrap (((lb (dg x4.2.1) x4.1 2)*65536)+x7))=uu (((lb (dg x4.2.1) x4.1 2)*65536)+x7))/\ ∀_:Unit,(True)->rdQ 1 x4.2.2.1 ((∃_:Unit,True/\Value.int .i64 (IntKind.i64.wrap ((((x4.1:Nat):Int) - 1) - 1))= .int .i64 ((((x4.1:Nat):Int) - 1) - 1))/\ ∀_:Unit,(True)-> ∃zy:Nat×Row×Nat×Nat,(zy.1<=(dg zy.2.1).length/\RowOK zy.2.1/\TrimR (dg a) (dg zy.2.1)/\ss 3 zy.2.1=ss 3 a/\(dg zy.2.1).length<=16)/\zy.1<x4.1/\sv x4.2.1=sv zy.2.1/\pp x4.2.2.1 0=pp zy.2.2.1 0/\Value.int .i64 ((((x4.1:Nat):Int) - 1) - 1)= .int .i64 (((zy.1:Nat):Int) - 1)/\pp x4.2.2.2 0=pp zy.2.2.2 0/\(ss 3 x4.2.1)=(ss 3 zy.2.1)/\bk x4.2.2.1 #[uu (lb (dg x4.2.1) x4.1 0),uu (lb (dg x4.2.1) x4.1 1),uu (((lb (dg x4.2.1) x4.1 2)*65536)+x7),uu (lb (dg x4.2.1) x4.1 3)] 29=bk zy.2.2.1 #[uu (lb (dg zy.2.1) zy.1 0),uu (lb (dg zy.2.1) zy.1 1),uu (lb (dg zy.2.1) zy.1 2),uu (lb (dg zy.2.1) zy.1 3)] 29/\bk x4.2.2.2 #[uu 0,uu 0,uu 0,uu 0] 29=bk zy.2.2.2 #[uu 0,uu 0,uu 0,uu 0] 29/\True))))/\((decide ((((x4.1:Nat):Int) - 1)/4=2))=false->(∃_:Unit,True/\Value.int .i64 (IntKind.i64.wrap (Int.tdiv (((x4.1:Nat):Int) - 1) 4))= .int .i64 3)/\ ∀_:Unit,(True)->(∃_:Unit,True/\Value.int .i64 (IntKind.i64.wrap (Int.tdiv (((x4.1:Nat):Int) - 1) 4))= .int .i64 3)/\ ∀_:Unit,(True)->rdQ 1 x4.2.2.1 ((∃_:Unit,True/\uu (IntKind.u64.wrap ((lb (dg x4.2.1) x4.1 3)*65536))=uu ((lb (dg x4.2.1) x4.1 3)*65536))/\ ∀_:Unit,(True)->(PureRun Tryz.prog (vS (Instr.indexAt 92 (sv x4.2.1) (.int .i64 (((x4.1:Nat):Int) - 1)))) (.pointer (some ⟨(vblk (sv x4.2.1)),(Int.toNat (((x4.1:Nat):Int) - 1)),none⟩)))/\opQr Tryz.prog (vS (Instr.loadAt 3 (.pointer (some ⟨(vblk (sv x4.2.1)),(Int.toNat (((x4.1:Nat):Int) - 1)),none⟩)))) [(ss 3 x4.2.1)] Int (fun zx=> .int .i64 zx) (fun zx=>(scells (ss 3 x4.2.1))[(Int.toNat (((x4.1:Nat):Int) - 1))]? =some (.int .i64 zx)) (fun x8=>(∃_:Unit,True/\uu (IntKind.u64.wrap x8)=uu x8)/\ ∀_:Unit,(True)->(∃_:Unit,True/\uu (IntKind.u64.wrap (((lb (dg x4.2.1) x4.1 3)*65536)+x8))=uu (((lb (dg x4.2.1) x4.1 3)*65536)+x8))/\ ∀_:Unit,(True)->rdQ 1 x4.2.2.1 ((∃_:Unit,True/\Value.int .i64 (IntKind.i64.wrap ((((x4.1:Nat):Int) - 1) - 1))= .int .i64 ((((x4.1:Nat):Int) - 1) - 1))/\ ∀_:Unit,(True)-> ∃zy:Nat×Row×Nat×Nat,(zy.1<=(dg zy.2.1).length/\RowOK zy.2.1/\TrimR (dg a) (dg zy.2.1)/\ss 3 zy.2.1=ss 3 a/\(dg zy.2.1).length<=16)/\zy.1<x4.1/\sv x4.2.1=sv zy.2.1/\pp x4.2.2.1 0=pp zy.2.2.1 0/\Value.int .i64 ((((x4.1:Nat):Int) - 1) - 1)= .int .i64 (((zy.1:Nat):Int) - 1)/\pp x4.2.2.2 0=pp zy.2.2.2 0/\(ss 3 x4.2.1)=(ss 3 zy.2.1)/\bk x4.2.2.1 #[uu (lb (dg x4.2.1) x4.1 0),uu (lb (dg x4.2.1) x4.1 1),uu (lb (dg x4.2.1) x4.1 2),uu (((lb (dg x4.2.1) x4.1 3)*65536)+x8)] 29=bk zy.2.2.1 #[uu (lb (dg zy.2.1) zy.1 0),uu (lb (dg zy.2.1) zy.1 1),uu (lb (dg zy.2.1) zy.1 2),uu (lb (dg zy.2.1) zy.1 3)] 29/\bk x4.2.2.2 #[uu 0,uu 0,uu 0,uu 0] 29=bk zy.2.2.2 #[uu 0,uu 0,uu 0,uu 0] 29/\True)))))))/\((decide ((((x4.1:Nat):Int) - 1)≥(0:Int)))=false->rdQ 4 x4.2.2.1 (rdQ 4 x4.2.2.2 (rdQ 4 x4.2.2.2 (ref2_Int_Q a (Value.tuple #[.agg #[uu (lb (dg x4.2.1) x4.1 0),uu (lb (dg x4.2.1) x4.1 1),uu (lb (dg x4.2.1) x4.1 2),uu (lb (dg x4.2.1) x4.1 3)], .bool true]) (ss 3 x4.2.1)))))))):=by kernel_rfl
set_option maxRecDepth 100000 in
set_option maxHeartbeats 2000000 in
theorem ref2_Int (a : Row) (r_a : RowOK a) (la : (dg a).length <= 65000) : ref2_Int_A a (fun za zh zv zu zp => CallT Tryz.prog 59 za zh (Int × Bool) zv zu zp) := by
  refine call_of (c:=bodyOf Tryz.f59) (n:=34) (fn:=Tryz.f59) Tryz.mixed Tryz.func59 (by kernel_rfl) (by kernel_rfl) (by kernel_rfl) 2000 _ [.rd 1, .rd 1, .rd 1, .rd 1] [0] rfl rfl (Eq.mpr (ref2_Int_vc a) ?_)
  have d_a:=rdv_eq a 3
  have e_a:=vlen_dg a
  intro b1
  refine ref1_Trim_m a (fun x2 rh1_ h1=> ?_)
  obtain ⟨hs,TR⟩:=h1
  have ok:RowOK x2:=by assumption
  have lz:=TR.len
  have ez:=vlen_dg x2
  refine ⟨xlen Tryz.sl92 3 x2,⟨fun h2=> ?_,fun h2=> ?_⟩⟩
  · exact rdQ_mk 4 _ (rdQ_mk 4 _ ⟨(0,false),⟨R4_zero,by rw [d_a,←TR.eq];exact (rInt_long ok.dig TR.canon (by simp only [decide_eq_true_eq,decide_eq_false_iff_not,gt_iff_lt,ge_iff_le,beq_iff_eq,beq_eq_false_iff_ne] at *;omega)).symm⟩,by rw [vI_zero],hs,trivial⟩)
  intro b3
  refine ⟨xlen Tryz.sl92 3 x2,⟨(),trivial,congrArg (Value.int .i64) (wrap_i64 _ (by omega) (by omega))⟩,fun _=>fun _=>⟨?_,fun x4 jx4 h3=> ?_⟩⟩
  · have h16:(dg x2).length<=16:=by
      simp only [decide_eq_true_eq,decide_eq_false_iff_not,gt_iff_lt,ge_iff_le,beq_iff_eq,beq_eq_false_iff_ne] at *
      omega
    exact ⟨((dg x2).length,x2,b3,b1),⟨Nat.le_refl _,ok,TR,hs,h16⟩,rfl,rfl,congrArg (Value.int .i64) (by dsimp only;omega),rfl,rfl,by simp only [lb_top],rfl,trivial⟩
  obtain ⟨hl,ok,TR,hs,h16⟩:=h3
  have lz:=TR.len;have ez:=vlen_dg x4.2.1
  refine ⟨fun h4=> ?_,fun h4=> ?_⟩
  · refine ⟨fun h5=> ?_,fun h5=> ?_⟩
    · have hx:0<x4.1:=by
        simp only [decide_eq_true_eq,decide_eq_false_iff_not,gt_iff_lt,ge_iff_le,beq_iff_eq,beq_eq_false_iff_ne] at *
        omega
      have hq:(((x4.1:Nat):Int) - 1)/4=0:=by
        simp only [decide_eq_true_eq,decide_eq_false_iff_not,gt_iff_lt,ge_iff_le,beq_iff_eq,beq_eq_false_iff_ne] at *
        omega
      have LS:=lb_step ok.dig hx hl (c:=0) (by omega)
      have LW:=LS.2.1;have LX:=LS.2.2.1
      have dz:=ok.dig.dgt (Int.toNat (((x4.1:Nat):Int) - 1))
      have et' :Int.toNat (((x4.1:Nat):Int) - 1)=x4.1 - 1:=by omega
      refine ⟨⟨(),trivial,congrArg (Value.int .i64) (quo4_i64 (by omega) (by omega) hq)⟩,fun _=>fun _=>⟨⟨(),trivial,congrArg (Value.int .i64) (quo4_i64 (by omega) (by omega) hq)⟩,fun _=>fun _=>rdQ_mk 1 _ ⟨⟨(),trivial,congrArg (Value.int .u64) (wrap_W LW)⟩,fun _=>fun _=>⟨xidx Tryz.sl92 x4.2.1 .i64 (((x4.1:Nat):Int) - 1) (by omega) (by rw [←dg_len];omega),opQr_mk (xgetR (e:=3) x4.2.1 3 Tryz.agg3 (Int.toNat (((x4.1:Nat):Int) - 1)) ok (by omega)) (wit_get (e:=3) x4.2.1 (Int.toNat (((x4.1:Nat):Int) - 1)) ok (by omega)) fun x5 h6=> ?_⟩⟩⟩⟩
      replace h6:=getR (e:=3) x4.2.1 (Int.toNat (((x4.1:Nat):Int) - 1)) ok (by omega) h6
      refine ⟨⟨(),trivial,congrArg (Value.int .u64) (wrap_W ⟨by omega,by omega⟩)⟩,fun _=>fun _=>⟨⟨(),trivial,congrArg (Value.int .u64) (wrap_W (by rw [h6,et'];exact LX))⟩,fun _=>fun _=>rdQ_mk 1 _ ⟨⟨(),trivial,congrArg (Value.int .i64) (wrap_i64 _ (by omega) (by omega))⟩,fun _=>fun _=> ?_⟩⟩⟩
      have et:Int.toNat (((x4.1:Nat):Int) - 1)=x4.1 - 1:=by omega
      have e0:=LS.1
      have e1:=LS.2.2.2 1 (by decide)
      have e2:=LS.2.2.2 2 (by decide)
      have e3:=LS.2.2.2 3 (by decide)
      exact ⟨(x4.1 - 1,x4.2),⟨by dsimp only;omega,ok,TR,hs,h16⟩,by dsimp only;omega,rfl,rfl,congrArg (Value.int .i64) (by dsimp only;omega),rfl,rfl,by dsimp only;rw [e0,e1,e2,e3,h6,et],rfl,trivial⟩
    refine ⟨fun h7=> ?_,fun h7=> ?_⟩
    · have hx:0<x4.1:=by
        simp only [decide_eq_true_eq,decide_eq_false_iff_not,gt_iff_lt,ge_iff_le,beq_iff_eq,beq_eq_false_iff_ne] at *
        omega
      have hq:(((x4.1:Nat):Int) - 1)/4=1:=by
        simp only [decide_eq_true_eq,decide_eq_false_iff_not,gt_iff_lt,ge_iff_le,beq_iff_eq,beq_eq_false_iff_ne] at *
        omega
      have LS:=lb_step ok.dig hx hl (c:=1) (by omega)
      have LW:=LS.2.1;have LX:=LS.2.2.1
      have dz:=ok.dig.dgt (Int.toNat (((x4.1:Nat):Int) - 1))
      have et' :Int.toNat (((x4.1:Nat):Int) - 1)=x4.1 - 1:=by omega
      refine ⟨⟨(),trivial,congrArg (Value.int .i64) (quo4_i64 (by omega) (by omega) hq)⟩,fun _=>fun _=>⟨⟨(),trivial,congrArg (Value.int .i64) (quo4_i64 (by omega) (by omega) hq)⟩,fun _=>fun _=>rdQ_mk 1 _ ⟨⟨(),trivial,congrArg (Value.int .u64) (wrap_W LW)⟩,fun _=>fun _=>⟨xidx Tryz.sl92 x4.2.1 .i64 (((x4.1:Nat):Int) - 1) (by omega) (by rw [←dg_len];omega),opQr_mk (xgetR (e:=3) x4.2.1 3 Tryz.agg3 (Int.toNat (((x4.1:Nat):Int) - 1)) ok (by omega)) (wit_get (e:=3) x4.2.1 (Int.toNat (((x4.1:Nat):Int) - 1)) ok (by omega)) fun x6 h8=> ?_⟩⟩⟩⟩
      replace h8:=getR (e:=3) x4.2.1 (Int.toNat (((x4.1:Nat):Int) - 1)) ok (by omega) h8
      refine ⟨⟨(),trivial,congrArg (Value.int .u64) (wrap_W ⟨by omega,by omega⟩)⟩,fun _=>fun _=>⟨⟨(),trivial,congrArg (Value.int .u64) (wrap_W (by rw [h8,et'];exact LX))⟩,fun _=>fun _=>rdQ_mk 1 _ ⟨⟨(),trivial,congrArg (Value.int .i64) (wrap_i64 _ (by omega) (by omega))⟩,fun _=>fun _=> ?_⟩⟩⟩
      have et:Int.toNat (((x4.1:Nat):Int) - 1)=x4.1 - 1:=by omega
      have e1:=LS.1
      have e0:=LS.2.2.2 0 (by decide)
      have e2:=LS.2.2.2 2 (by decide)
      have e3:=LS.2.2.2 3 (by decide)
      exact ⟨(x4.1 - 1,x4.2),⟨by dsimp only;omega,ok,TR,hs,h16⟩,by dsimp only;omega,rfl,rfl,congrArg (Value.int .i64) (by dsimp only;omega),rfl,rfl,by dsimp only;rw [e0,e1,e2,e3,h8,et],rfl,trivial⟩
    refine ⟨fun h9=> ?_,fun h9=> ?_⟩
    · have hx:0<x4.1:=by
        simp only [decide_eq_true_eq,decide_eq_false_iff_not,gt_iff_lt,ge_iff_le,beq_iff_eq,beq_eq_false_iff_ne] at *
        omega
      have hq:(((x4.1:Nat):Int) - 1)/4=2:=by
        simp only [decide_eq_true_eq,decide_eq_false_iff_not,gt_iff_lt,ge_iff_le,beq_iff_eq,beq_eq_false_iff_ne] at *
        omega
      have LS:=lb_step ok.dig hx hl (c:=2) (by omega)
      have LW:=LS.2.1;have LX:=LS.2.2.1
      have dz:=ok.dig.dgt (Int.toNat (((x4.1:Nat):Int) - 1))
      have et' :Int.toNat (((x4.1:Nat):Int) - 1)=x4.1 - 1:=by omega
      refine ⟨⟨(),trivial,congrArg (Value.int .i64) (quo4_i64 (by omega) (by omega) hq)⟩,fun _=>fun _=>⟨⟨(),trivial,congrArg (Value.int .i64) (quo4_i64 (by omega) (by omega) hq)⟩,fun _=>fun _=>rdQ_mk 1 _ ⟨⟨(),trivial,congrArg (Value.int .u64) (wrap_W LW)⟩,fun _=>fun _=>⟨xidx Tryz.sl92 x4.2.1 .i64 (((x4.1:Nat):Int) - 1) (by omega) (by rw [←dg_len];omega),opQr_mk (xgetR (e:=3) x4.2.1 3 Tryz.agg3 (Int.toNat (((x4.1:Nat):Int) - 1)) ok (by omega)) (wit_get (e:=3) x4.2.1 (Int.toNat (((x4.1:Nat):Int) - 1)) ok (by omega)) fun x7 h10=> ?_⟩⟩⟩⟩
      replace h10:=getR (e:=3) x4.2.1 (Int.toNat (((x4.1:Nat):Int) - 1)) ok (by omega) h10
      refine ⟨⟨(),trivial,congrArg (Value.int .u64) (wrap_W ⟨by omega,by omega⟩)⟩,fun _=>fun _=>⟨⟨(),trivial,congrArg (Value.int .u64) (wrap_W (by rw [h10,et'];exact LX))⟩,fun _=>fun _=>rdQ_mk 1 _ ⟨⟨(),trivial,congrArg (Value.int .i64) (wrap_i64 _ (by omega) (by omega))⟩,fun _=>fun _=> ?_⟩⟩⟩
      have et:Int.toNat (((x4.1:Nat):Int) - 1)=x4.1 - 1:=by omega
      have e2:=LS.1
      have e0:=LS.2.2.2 0 (by decide)
      have e1:=LS.2.2.2 1 (by decide)
      have e3:=LS.2.2.2 3 (by decide)
      exact ⟨(x4.1 - 1,x4.2),⟨by dsimp only;omega,ok,TR,hs,h16⟩,by dsimp only;omega,rfl,rfl,congrArg (Value.int .i64) (by dsimp only;omega),rfl,rfl,by dsimp only;rw [e0,e1,e2,e3,h10,et],rfl,trivial⟩
    have hx:0<x4.1:=by
      simp only [decide_eq_true_eq,decide_eq_false_iff_not,gt_iff_lt,ge_iff_le,beq_iff_eq,beq_eq_false_iff_ne] at *
      omega
    have hq:(((x4.1:Nat):Int) - 1)/4=3:=by
      simp only [decide_eq_true_eq,decide_eq_false_iff_not,gt_iff_lt,ge_iff_le,beq_iff_eq,beq_eq_false_iff_ne] at *
      omega
    have LS:=lb_step ok.dig hx hl (c:=3) (by omega)
    have LW:=LS.2.1;have LX:=LS.2.2.1
    have dz:=ok.dig.dgt (Int.toNat (((x4.1:Nat):Int) - 1))
    have et' :Int.toNat (((x4.1:Nat):Int) - 1)=x4.1 - 1:=by omega
    refine ⟨⟨(),trivial,congrArg (Value.int .i64) (quo4_i64 (by omega) (by omega) hq)⟩,fun _=>fun _=>⟨⟨(),trivial,congrArg (Value.int .i64) (quo4_i64 (by omega) (by omega) hq)⟩,fun _=>fun _=>rdQ_mk 1 _ ⟨⟨(),trivial,congrArg (Value.int .u64) (wrap_W LW)⟩,fun _=>fun _=>⟨xidx Tryz.sl92 x4.2.1 .i64 (((x4.1:Nat):Int) - 1) (by omega) (by rw [←dg_len];omega),opQr_mk (xgetR (e:=3) x4.2.1 3 Tryz.agg3 (Int.toNat (((x4.1:Nat):Int) - 1)) ok (by omega)) (wit_get (e:=3) x4.2.1 (Int.toNat (((x4.1:Nat):Int) - 1)) ok (by omega)) fun x8 h11=> ?_⟩⟩⟩⟩
    replace h11:=getR (e:=3) x4.2.1 (Int.toNat (((x4.1:Nat):Int) - 1)) ok (by omega) h11
    refine ⟨⟨(),trivial,congrArg (Value.int .u64) (wrap_W ⟨by omega,by omega⟩)⟩,fun _=>fun _=>⟨⟨(),trivial,congrArg (Value.int .u64) (wrap_W (by rw [h11,et'];exact LX))⟩,fun _=>fun _=>rdQ_mk 1 _ ⟨⟨(),trivial,congrArg (Value.int .i64) (wrap_i64 _ (by omega) (by omega))⟩,fun _=>fun _=> ?_⟩⟩⟩
    have et:Int.toNat (((x4.1:Nat):Int) - 1)=x4.1 - 1:=by omega
    have e3:=LS.1
    have e0:=LS.2.2.2 0 (by decide)
    have e1:=LS.2.2.2 1 (by decide)
    have e2:=LS.2.2.2 2 (by decide)
    exact ⟨(x4.1 - 1,x4.2),⟨by dsimp only;omega,ok,TR,hs,h16⟩,by dsimp only;omega,rfl,rfl,congrArg (Value.int .i64) (by dsimp only;omega),rfl,rfl,by dsimp only;rw [e0,e1,e2,e3,h11,et],rfl,trivial⟩
  refine rdQ_mk 4 _ (rdQ_mk 4 _ (rdQ_mk 4 _ ?_))
  unfold ref2_Int_Q
  have hn:x4.1=0:=by
    simp only [decide_eq_true_eq,decide_eq_false_iff_not,gt_iff_lt,ge_iff_le,beq_iff_eq,beq_eq_false_iff_ne] at *
    omega
  have hle:=h16
  have e:=rInt_short ok.dig hle
  exact ⟨rInt (nv (dg a)),⟨rInt_R (nv_nonneg r_a.dig),by rw [d_a]⟩,by rw [←TR.eq,e,hn,lb_vI ok.dig hle],hs,trivial⟩
abbrev ref2_Int_K (a:Row) (KK:(Int×Bool)->Prop):Prop:=ref2_Int_A a (fun za zh zv zu zp=>callQ Tryz.prog 59 za zh (Int×Bool) zv zu zp KK)
theorem ref2_Int_m (a:Row) {KK:(Int×Bool)->Prop} (kont: ∀zx:Int×Bool,R4 zx.1->(zx=rInt (nv (dg a)))->KK zx) (r_a:RowOK a:=by first | assumption | exact rowOK_lit _ _ (by decide)) (la:(dg a).length<=65000:=by omega):ref2_Int_K a KK:=callQ_mk (ref2_Int a r_a la) (⟨_,rInt_R (by rw [rdv_eq a];exact nv_nonneg (RowOK.dig (r_a))),rfl⟩) fun zx hz=>by
  simp only [rdv_eq] at hz
  obtain ⟨rhz_1,hz⟩:=hz
  exact kont zx rhz_1 hz
noncomputable def ref13_wrong_C:List Value->List Slot->Ctr:=fun vs hs=>⟨Int,fun zx=> .int .i64 zx,fun _=>hs,fun zx=>zx=rW (ci (varg vs 1)) (ci (varg vs 2)) (ci (varg vs 3)) (num (varg vs 4))⟩
abbrev ref13_wrong_Q (t p q n:Int) (zv:Value) :Prop:= ∃zx:Int,(zx=rW t p q (num (vI n)))/\zv= .int .i64 zx/\True
abbrev ref13_wrong_A (t p q n:Int) (zF:SF Int):Prop:=zF #[.int .u8 t, .int .u8 p, .int .u8 q,vI n] [] (fun zx=> .int .i64 zx) (fun zx=> []) (fun zx=>(zx=rW t p q (num (vI n))))
set_option maxRecDepth 100000 in
theorem ref13_wrong_vc (t p q n:Int):ref13_wrong_A t p q n (fun za zh zv zu zp=>codeW Tryz.prog 23 none 2000 none (bodyOf Tryz.f58) (.reg [.sem [.nw 0],S0] (.caseP (fun s=>decide ((ci (s.fr 0))>(3:Int))) (.reg [S0, .gen [] (Sx.one (.bool true)),S0, .no, .no,S0,S0, .no, .no,S0] (.condT (.reg [S0] (.done)))) (.caseP (fun s=>decide ((ci (s.fr 1))>(17:Int))) (.reg [S0, .gen [] (Sx.one (.bool false)),S0,S0, .gen [] (Sx.one (.bool true)),S0,S0, .no, .no,S0] (.condT (.reg [S0] (.done)))) (.reg [S0, .gen [] (Sx.one (.bool false)),S0,S0, .gen [] (Sx.one (.bool false)),S0,S0,S0,S0,S0] (.cond (.reg [S0] (.done)) (.reg [.sem (rds 4 0), .callw [] [1] ref2_Row_C, .eq (f_len),S0] (.cond (.reg [S0] (.done)) (.reg [S0] (.done)))))))))
    (init za zh) (finW Tryz.prog Tryz.f58 [] [] (X:=Int) zv zu zp))=
    (∀b1:Nat,((decide (t>(3:Int)))=true->(∃_:Unit,True/\Value.bool (decide (t>(3:Int)))= .bool true)/\ ∀_:Unit,(True)->true= !false/\true= !false/\true= !false/\true= !false/\(true=true)/\ref13_wrong_Q t p q n (Value.int .i64 1))/\((decide (t>(3:Int)))=false->((decide (p>(17:Int)))=true->(∃_:Unit,True/\Value.bool (decide (t>(3:Int)))= .bool false)/\ ∀_:Unit,(True)->false=false/\false=false/\(∃_:Unit,True/\Value.bool (decide (p>(17:Int)))= .bool true)/\ ∀_:Unit,(True)->true= !false/\true= !false/\(true=true)/\ref13_wrong_Q t p q n (Value.int .i64 1))/\((decide (p>(17:Int)))=false->(∃_:Unit,True/\Value.bool (decide (t>(3:Int)))= .bool false)/\ ∀_:Unit,(True)->false=false/\false=false/\(∃_:Unit,True/\Value.bool (decide (p>(17:Int)))= .bool false)/\ ∀_:Unit,(True)->false=false/\false=false/\((decide (q>(17:Int)))=true->ref13_wrong_Q t p q n (Value.int .i64 1))/\((decide (q>(17:Int)))=false->rdQ 4 b1 (ref2_Row_K n (fun x2=>(PureRun Tryz.prog (vS (Builtin.len_ #[92] 3 #[sv x2])) (.int .i64 ((vlen (sv x2):Nat):Int)))/\((((vlen (sv x2):Nat):Int)==(0:Int))=true->ref13_wrong_Q t p q n (Value.int .i64 3))/\((((vlen (sv x2):Nat):Int)==(0:Int))=false->ref13_wrong_Q t p q n (Value.int .i64 0)))))))):=by kernel_rfl
set_option maxRecDepth 100000 in
theorem ref13_wrong (t p q n:Int) (r_n:R4 n):ref13_wrong_A t p q n (fun za zh zv zu zp=>CallT Tryz.prog 58 za zh Int zv zu zp):=by
  refine call_of (c:=bodyOf Tryz.f58) (n:=23) (fn:=Tryz.f58) Tryz.mixed Tryz.func58 (by kernel_rfl) (by kernel_rfl) (by kernel_rfl) 2000 _ [] [] rfl rfl (Eq.mpr (ref13_wrong_vc t p q n) ?_)
  intro b1
  refine ⟨fun h1=> ?_,fun h1=> ?_⟩
  · refine ⟨⟨(),trivial,congrArg Value.bool h1⟩,fun _=>fun _=>⟨rfl,rfl,rfl,rfl,⟨rfl,?_⟩⟩⟩
    unfold ref13_wrong_Q
    try simp (disch:=first | assumption | exact R4_zero | exact R4_one) only [rdx] at *
    have hs:rW t p q n=1:=by
      unfold rW
      (repeat' split)<;>first | rfl | (exfalso;omega)
    exact ⟨_,by first | exact hs.symm | (rw [num_vI r_n];exact hs.symm),rfl,trivial⟩
  refine ⟨fun h2=> ?_,fun h2=> ?_⟩
  · refine ⟨⟨(),trivial,congrArg Value.bool h1⟩,fun _=>fun _=>⟨rfl,rfl,⟨(),trivial,congrArg Value.bool h2⟩,fun _=>fun _=>⟨rfl,rfl,⟨rfl,?_⟩⟩⟩⟩
    unfold ref13_wrong_Q
    try simp (disch:=first | assumption | exact R4_zero | exact R4_one) only [rdx] at *
    have hs:rW t p q n=1:=by
      unfold rW
      (repeat' split)<;>first | rfl | (exfalso;omega)
    exact ⟨_,by first | exact hs.symm | (rw [num_vI r_n];exact hs.symm),rfl,trivial⟩
  refine ⟨⟨(),trivial,congrArg Value.bool h1⟩,fun _=>fun _=>⟨rfl,rfl,⟨(),trivial,congrArg Value.bool h2⟩,fun _=>fun _=>⟨rfl,rfl,⟨fun h3=> ?_,fun h3=> ?_⟩⟩⟩⟩
  · unfold ref13_wrong_Q
    try simp (disch:=first | assumption | exact R4_zero | exact R4_one) only [rdx] at *
    have hs:rW t p q n=1:=by
      unfold rW
      (repeat' split)<;>first | rfl | (exfalso;omega)
    exact ⟨_,by first | exact hs.symm | (rw [num_vI r_n];exact hs.symm),rfl,trivial⟩
  refine rdQ_mk 4 _ (ref2_Row_m n (fun x2 rh4_ h4=> ?_))
  have h1:=h4
  have hcp:=canon_pos (RowOK.dig (by assumption)) h1.2.1
  rw [h1.1] at hcp
  have hln:=vlen_dg x2
  refine ⟨xlen Tryz.sl92 3 x2,⟨fun h5=> ?_,fun h5=> ?_⟩⟩
  · unfold ref13_wrong_Q
    try simp (disch:=first | assumption | exact R4_zero | exact R4_one) only [rdx] at *
    have hs:rW t p q n=3:=by
      unfold rW
      (repeat' split)<;>first | rfl | (exfalso;omega)
    exact ⟨_,by first | exact hs.symm | (rw [num_vI r_n];exact hs.symm),rfl,trivial⟩
  unfold ref13_wrong_Q
  try simp (disch:=first | assumption | exact R4_zero | exact R4_one) only [rdx] at *
  have hs:rW t p q n=0:=by
    unfold rW
    (repeat' split)<;>first | rfl | (exfalso;omega)
  exact ⟨_,by first | exact hs.symm | (rw [num_vI r_n];exact hs.symm),rfl,trivial⟩
abbrev ref13_wrong_K (t p q n:Int) (KK:Int->Prop):Prop:=ref13_wrong_A t p q n (fun za zh zv zu zp=>callQr Tryz.prog 58 za zh Int zv zp KK)
theorem ref13_wrong_m (t p q n:Int) {KK:Int->Prop} (kont: ∀zx:Int,(zx=rW t p q n)->KK zx) (r_n:R4 n:=by assumption):ref13_wrong_K t p q n KK:=callQr_mk (ref13_wrong t p q n r_n) (⟨_,rfl⟩) fun zx hz=>by
  try simp only [num_vI (n:=n) r_n] at hz
  exact kont zx hz
noncomputable def ref13_add_C:List Value->List Slot->Ctr:=fun vs hs=>⟨Int,fun zx=>vI zx,fun _=>hs,fun zx=>R4 zx/\zx=rI ((num (varg vs 1))+(num (varg vs 2)))⟩
abbrev ref13_add_Q (a b:Int) (zv:Value) :Prop:= ∃zx:Int,(R4 zx/\zx=rI ((num (vI a))+(num (vI b))))/\zv=vI zx/\True
abbrev ref13_add_A (a b:Int) (zF:SF Int):Prop:=zF #[vI a,vI b] [] (fun zx=>vI zx) (fun zx=> []) (fun zx=>(R4 zx/\zx=rI ((num (vI a))+(num (vI b)))))
set_option maxRecDepth 100000 in
theorem ref13_add_vc (a b:Int):ref13_add_A a b (fun za zh zv zu zp=>codeW Tryz.prog 17 none 2000 none (bodyOf Tryz.f61) (.reg [.sem [.nw 0], .sem [.nw 1], .sem [.nw 2]] (.reg [.sem (rds 4 0), .callw [] [3] ref2_Row_C, .sem (rds 4 1), .callw [] [4] ref2_Row_C, .callw [3,4] [3,4,5] ref1_Add_C, .callw [5] [5] ref2_Int_C,S0,S0,S0, .sem [.nw 6], .sem (wrs 4 6),S0] (.reg [.sem (rds 4 6), .sem (wrs 4 2)] (.done))))
    (init za zh) (finW Tryz.prog Tryz.f61 [.rd 2, .rd 2, .rd 2, .rd 2] [] (X:=Int) zv zu zp))=
    (∀b1:Nat,∀b2:Nat,∀b3:Nat,rdQ 4 b1 (ref2_Row_K a (fun x4=>rdQ 4 b2 (ref2_Row_K b (fun x5=>ref1_Add_K x4 x5 (fun x6=>ref2_Int_K x6 (fun x7=> ∀b8:Nat,rdQ 4 b8 (rdQ 4 b8 (rdQ 4 b3 (rdQ 4 b3 (ref13_add_Q a b (vI x7.1)))))))))))):=by kernel_rfl
set_option maxRecDepth 100000 in
theorem ref13_add (a b:Int) (r_a:R4 a) (r_b:R4 b):ref13_add_A a b (fun za zh zv zu zp=>CallT Tryz.prog 61 za zh Int zv zu zp):=by
  refine call_of (c:=bodyOf Tryz.f61) (n:=17) (fn:=Tryz.f61) Tryz.mixed Tryz.func61 (by kernel_rfl) (by kernel_rfl) (by kernel_rfl) 2000 _ [.rd 2, .rd 2, .rd 2, .rd 2] [] rfl rfl (Eq.mpr (ref13_add_vc a b) ?_)
  intro b1
  intro b2
  intro b3
  refine rdQ_mk 4 _ (ref2_Row_m a (fun x4 rh1_ h1=> ?_))
  have h1_:=h1
  have okh1_:RowOK x4:=by assumption
  have lh1_:(dg x4).length<=65000:=by have:=h1_.2.2;omega
  refine rdQ_mk 4 _ (ref2_Row_m b (fun x5 rh2_ h2=> ?_))
  have h2_:=h2
  have okh2_:RowOK x5:=by assumption
  have lh2_:(dg x5).length<=65000:=by have:=h2_.2.2;omega
  refine ref1_Add_m x4 x5 (fun x6 rh3_ h3=> ?_)
  have hs:=h3
  have ls:(dg x6).length<=65000:=by have:=len40 (RowOK.dig (by assumption)) hs.2 (hs.1.trans (by rw [h1_.1,h2_.1])) (wide_num (n:=a+b) (by have q1:=r_a.1;have q2:=r_b.1;have q3:=r_a.2;have q4:=r_b.2;unfold R8;omega));omega
  refine ref2_Int_m x6 (fun x7 rh4_1 h4=> ?_) (la:=ls)
  have hI:=h4
  intro b8
  exact rdQ_mk 4 _ (rdQ_mk 4 _ (rdQ_mk 4 _ (rdQ_mk 4 _ ⟨_,⟨by assumption,by rw [num_vI r_a,num_vI r_b,hI,hs.1,h1_.1,h2_.1];exact (rI_of (by have:=r_a.1;have:=r_b.1;omega)).symm⟩,rfl,trivial⟩)))
abbrev ref13_add_K (a b:Int) (KK:Int->Prop):Prop:=ref13_add_A a b (fun za zh zv zu zp=>callQr Tryz.prog 61 za zh Int zv zp KK)
theorem ref13_add_m (a b:Int) {KK:Int->Prop} (kont: ∀zx:Int,R4 zx->(zx=rI (a+b))->KK zx) (r_a:R4 a:=by assumption) (r_b:R4 b:=by assumption):ref13_add_K a b KK:=callQr_mk (ref13_add a b r_a r_b) (⟨_,rI_sum (by first | exact R4_num _ | exact r_a) (by first | exact R4_num _ | exact r_b),rfl⟩) fun zx hz=>by
  obtain ⟨rhz_,hz⟩:=hz
  try simp only [num_vI (n:=a) r_a,num_vI (n:=b) r_b] at hz
  exact kont zx rhz_ hz
noncomputable def ref13_sub_C:List Value->List Slot->Ctr:=fun vs hs=>⟨Int,fun zx=>vI zx,fun _=>hs,fun zx=>R4 zx/\zx=rI ((num (varg vs 1)) - (num (varg vs 2)))⟩
abbrev ref13_sub_Q (a b:Int) (zv:Value) :Prop:= ∃zx:Int,(R4 zx/\zx=rI ((num (vI a)) - (num (vI b))))/\zv=vI zx/\True
abbrev ref13_sub_A (a b:Int) (zF:SF Int):Prop:=zF #[vI a,vI b] [] (fun zx=>vI zx) (fun zx=> []) (fun zx=>(R4 zx/\zx=rI ((num (vI a)) - (num (vI b)))))
set_option maxRecDepth 100000 in
theorem ref13_sub_vc (a b:Int):ref13_sub_A a b (fun za zh zv zu zp=>codeW Tryz.prog 17 none 2000 none (bodyOf Tryz.f63) (.reg [.sem [.nw 0], .sem [.nw 1], .sem [.nw 2]] (.reg [.sem (rds 4 0), .callw [] [3] ref2_Row_C, .sem (rds 4 1), .callw [] [4] ref2_Row_C, .callw [3,4] [3,4,5] ref1_Sub_C, .callw [5] [5] ref2_Int_C,S0,S0,S0, .sem [.nw 6], .sem (wrs 4 6),S0] (.reg [.sem (rds 4 6), .sem (wrs 4 2)] (.done))))
    (init za zh) (finW Tryz.prog Tryz.f63 [.rd 2, .rd 2, .rd 2, .rd 2] [] (X:=Int) zv zu zp))=
    (∀b1:Nat,∀b2:Nat,∀b3:Nat,rdQ 4 b1 (ref2_Row_K a (fun x4=>rdQ 4 b2 (ref2_Row_K b (fun x5=>ref1_Sub_K x4 x5 (fun x6=>ref2_Int_K x6 (fun x7=> ∀b8:Nat,rdQ 4 b8 (rdQ 4 b8 (rdQ 4 b3 (rdQ 4 b3 (ref13_sub_Q a b (vI x7.1)))))))))))):=by kernel_rfl
set_option maxRecDepth 100000 in
theorem ref13_sub (a b:Int) (r_a:R4 a) (r_b:R4 b) (hle:b<=a):ref13_sub_A a b (fun za zh zv zu zp=>CallT Tryz.prog 63 za zh Int zv zu zp):=by
  refine call_of (c:=bodyOf Tryz.f63) (n:=17) (fn:=Tryz.f63) Tryz.mixed Tryz.func63 (by kernel_rfl) (by kernel_rfl) (by kernel_rfl) 2000 _ [.rd 2, .rd 2, .rd 2, .rd 2] [] rfl rfl (Eq.mpr (ref13_sub_vc a b) ?_)
  intro b1
  intro b2
  intro b3
  refine rdQ_mk 4 _ (ref2_Row_m a (fun x4 rh1_ h1=> ?_))
  have h1_:=h1
  have okh1_:RowOK x4:=by assumption
  have lh1_:(dg x4).length<=65000:=by have:=h1_.2.2;omega
  refine rdQ_mk 4 _ (ref2_Row_m b (fun x5 rh2_ h2=> ?_))
  have h2_:=h2
  have okh2_:RowOK x5:=by assumption
  have lh2_:(dg x5).length<=65000:=by have:=h2_.2.2;omega
  refine ref1_Sub_m x4 x5 (fun x6 rh3_ h3=> ?_) (hle:=by rw [h1_.1,h2_.1];exact hle)
  have hs:=h3
  have ls:(dg x6).length<=65000:=by have:=len40 (RowOK.dig (by assumption)) hs.2 (hs.1.trans (by rw [h1_.1,h2_.1])) (wide_num (n:=a - b) (by have q1:=r_a.1;have q2:=r_b.1;have q3:=r_a.2;have q4:=r_b.2;unfold R8;omega));omega
  refine ref2_Int_m x6 (fun x7 rh4_1 h4=> ?_) (la:=ls)
  have hI:=h4
  intro b8
  exact rdQ_mk 4 _ (rdQ_mk 4 _ (rdQ_mk 4 _ (rdQ_mk 4 _ ⟨_,⟨by assumption,by rw [num_vI r_a,num_vI r_b,hI,hs.1,h1_.1,h2_.1];exact (rI_of (by omega)).symm⟩,rfl,trivial⟩)))
abbrev ref13_sub_K (a b:Int) (KK:Int->Prop):Prop:=ref13_sub_A a b (fun za zh zv zu zp=>callQr Tryz.prog 63 za zh Int zv zp KK)
theorem ref13_sub_m (a b:Int) {KK:Int->Prop} (kont: ∀zx:Int,R4 zx->(zx=rI (a - b))->KK zx) (r_a:R4 a:=by assumption) (r_b:R4 b:=by assumption) (hle:b<=a:=by omega):ref13_sub_K a b KK:=callQr_mk (ref13_sub a b r_a r_b hle) (⟨_,rI_all _,rfl⟩) fun zx hz=>by
  obtain ⟨rhz_,hz⟩:=hz
  try simp only [num_vI (n:=a) r_a,num_vI (n:=b) r_b] at hz
  exact kont zx rhz_ hz
noncomputable def ref13_Less_C:List Value->List Slot->Ctr:=fun vs hs=>⟨Bool,fun zx=> .bool zx,fun _=>hs,fun zx=>zx=decide ((num (varg vs 1))<(num (varg vs 2)))⟩
abbrev ref13_Less_Q (a b:Int) (zv:Value) :Prop:= ∃zx:Bool,(zx=decide ((num (vI a))<(num (vI b))))/\zv= .bool zx/\True
abbrev ref13_Less_A (a b:Int) (zF:SF Bool):Prop:=zF #[vI a,vI b] [] (fun zx=> .bool zx) (fun zx=> []) (fun zx=>(zx=decide ((num (vI a))<(num (vI b)))))
set_option maxRecDepth 100000 in
theorem ref13_Less_vc (a b:Int):ref13_Less_A a b (fun za zh zv zu zp=>codeW Tryz.prog 11 none 2000 none (bodyOf Tryz.f62) (.reg [.sem [.nw 0], .sem [.nw 1],S0] (.reg [.sem (rds 4 0), .callw [] [2] ref2_Row_C, .sem (rds 4 1), .callw [] [3] ref2_Row_C, .callr [2,3] ref1_Cmp_C,S0,S0] (.done)))
    (init za zh) (finW Tryz.prog Tryz.f62 [] [] (X:=Bool) zv zu zp))=
    (∀b1:Nat,∀b2:Nat,rdQ 4 b1 (ref2_Row_K a (fun x3=>rdQ 4 b2 (ref2_Row_K b (fun x4=>ref1_Cmp_K x3 x4 (fun x5=>ref13_Less_Q a b (Value.bool (decide (x5<(0:Int)))))))))):=by kernel_rfl
set_option maxRecDepth 100000 in
theorem ref13_Less (a b:Int) (r_a:R4 a) (r_b:R4 b):ref13_Less_A a b (fun za zh zv zu zp=>CallT Tryz.prog 62 za zh Bool zv zu zp):=by
  refine call_of (c:=bodyOf Tryz.f62) (n:=11) (fn:=Tryz.f62) Tryz.mixed Tryz.func62 (by kernel_rfl) (by kernel_rfl) (by kernel_rfl) 2000 _ [] [] rfl rfl (Eq.mpr (ref13_Less_vc a b) ?_)
  intro b1
  intro b2
  refine rdQ_mk 4 _ (ref2_Row_m a (fun x3 rh1_ h1=> ?_))
  have h1_:=h1
  have okh1_:RowOK x3:=by assumption
  have lh1_:(dg x3).length<=65000:=by have:=h1_.2.2;omega
  refine rdQ_mk 4 _ (ref2_Row_m b (fun x4 rh2_ h2=> ?_))
  have h2_:=h2
  have okh2_:RowOK x4:=by assumption
  have lh2_:(dg x4).length<=65000:=by have:=h2_.2.2;omega
  refine ref1_Cmp_m x3 x4 (fun x5 h3=> ?_)
  have hc_:=h3
  exact ⟨_,by rw [num_vI r_a,num_vI r_b,hc_,h1_.1,h2_.1];simp only [hCmp_neg],rfl,trivial⟩
abbrev ref13_Less_K (a b:Int) (KK:Bool->Prop):Prop:=ref13_Less_A a b (fun za zh zv zu zp=>callQr Tryz.prog 62 za zh Bool zv zp KK)
theorem ref13_Less_m (a b:Int) {KK:Bool->Prop} (kont: ∀zx:Bool,(zx=decide (a<b))->KK zx) (r_a:R4 a:=by assumption) (r_b:R4 b:=by assumption):ref13_Less_K a b KK:=callQr_mk (ref13_Less a b r_a r_b) (⟨_,rfl⟩) fun zx hz=>by
  try simp only [num_vI (n:=a) r_a,num_vI (n:=b) r_b] at hz
  exact kont zx hz
noncomputable def ref13_Supply_C:List Value->List Slot->Ctr:=fun vs hs=>⟨Row,fun zx=>sv zx,fun zx=> [(ss 3 zx)],fun zx=>RowOK zx/\nv (dg zx)=rsum (utn (varg vs 1)) (ci (varg vs 2)) 18/\Canon (dg zx)⟩
abbrev ref13_Supply_Q (xs:List Int) (t:Int) (zv:Value) (zs0:Slot):Prop:= ∃zx:Row,(RowOK zx/\nv (dg zx)=rsum (utn (tnV xs)) t 18/\Canon (dg zx))/\zv=sv zx/\zs0=(ss 3 zx)/\True
abbrev ref13_Supply_A (xs:List Int) (t:Int) (zF:SF Row):Prop:=zF #[tnV xs, .int .u8 t] [] (fun zx=>sv zx) (fun zx=> [(ss 3 zx)]) (fun zx=>(RowOK zx/\nv (dg zx)=rsum (utn (tnV xs)) t 18/\Canon (dg zx)))
set_option maxRecDepth 100000 in
set_option maxHeartbeats 2000000 in
theorem ref13_Supply_vc (xs:List Int) (t:Int):ref13_Supply_A xs t (fun za zh zv zu zp=>codeW Tryz.prog 21 none 2000 none (bodyOf Tryz.f45) (.reg [.specw [] [0] (F_tbox 33),S0] (.reg [S0] (.reg [S0,S0, .eq (f_tidx 72), .specr [0] (F_tpart 18),S0] (.inv (Nat×Row×List Int) (fun zx=> [(11,tnV zx.2.2),(12, .int .i64 ((zx.1:Nat):Int)),(5,sv zx.2.1)]) (fun zx=> [(40,(ss 3 zx.2.1))]) (fun zx=>zx.1<=18/\RowOK zx.2.1/\Canon (dg zx.2.1)/\nv (dg zx.2.1)=rsum xs t zx.1/\okT 18 zx.2.2/\zx.2.2=(xs.drop (0+Int.toNat t*18)).take 18) (fun zx=>18 - zx.1) (fun x3=> .reg [S0] (.cond (.reg [.specr [] F_tix, .sem [.nw 1], .sem (wrs 4 1)] (.reg [S0, .sem (rds 4 1), .callw [] [2] ref2_Row_C, .callw [40,2] [61,2,40] ref1_Add_C,S0] (.reg [.gen [] (fun vs=>Sx.one (.int .i64 (ci (varg vs 0)+ci (varg vs 1))) vs),S0] (.done)))) (.reg [S0,S0] (.done))))))))
    (init za zh) (finW Tryz.prog Tryz.f45 [] [40] (X:=Row) zv zu zp))=
    (opQ Tryz.prog (vS (Instr.box 33 (tnV xs))) [] Nat (fun zx=>pp zx 0) (fun zx=> [(tb zx 33 (tnV xs))]) (fun zx=>True) (fun x1=>(PureRun Tryz.prog (vS (Instr.indexAt 31 (pp x1 0) (.int .u8 t))) (.pointer (some ⟨x1,(0+Int.toNat t*72),none⟩)))/\opQr Tryz.prog (vS (Instr.loadAt 30 (.pointer (some ⟨x1,(0+Int.toNat t*72),none⟩)))) [(tb x1 33 (tnV xs))] (List Int) (fun zx=>tnV zx) (fun zx=>okT 18 zx/\zx=((utn (sval (tb x1 33 (tnV xs)))).drop ((0+Int.toNat t*72)/4)).take 18) (fun x2=>(∃zx:Nat×Row×List Int,(zx.1<=18/\RowOK zx.2.1/\Canon (dg zx.2.1)/\nv (dg zx.2.1)=rsum xs t zx.1/\okT 18 zx.2.2/\zx.2.2=(xs.drop (0+Int.toNat t*18)).take 18)/\tnV x2=tnV zx.2.2/\Value.int .i64 0= .int .i64 ((zx.1:Nat):Int)/\Value.slice none 0 0=sv zx.2.1/\Slot.free=(ss 3 zx.2.1)/\True)/\ ∀x3:Nat×Row×List Int,∀jx3:Nat->Value,(x3.1<=18/\RowOK x3.2.1/\Canon (dg x3.2.1)/\nv (dg x3.2.1)=rsum xs t x3.1/\okT 18 x3.2.2/\x3.2.2=(xs.drop (0+Int.toNat t*18)).take 18)->((decide (((x3.1:Nat):Int)<(18:Int)))=true->opQr Tryz.prog (vS (Instr.index 30 (tnV x3.2.2) (.int .i64 ((x3.1:Nat):Int)))) [] Int (fun zx=>vI zx) (fun zx=>R4 zx/\zx=(utn (tnV x3.2.2)).getD (Int.toNat ((x3.1:Nat):Int)) 0) (fun x4=> ∀b5:Nat,rdQ 4 b5 (rdQ 4 b5 (ref2_Row_K x4 (fun x6=>ref1_Add_K x3.2.1 x6 (fun x7=>(∃_:Unit,True/\Value.int .i64 (IntKind.i64.wrap (((x3.1:Nat):Int)+1))= .int .i64 (((x3.1:Nat):Int)+1))/\ ∀_:Unit,(True)-> ∃zy:Nat×Row×List Int,(zy.1<=18/\RowOK zy.2.1/\Canon (dg zy.2.1)/\nv (dg zy.2.1)=rsum xs t zy.1/\okT 18 zy.2.2/\zy.2.2=(xs.drop (0+Int.toNat t*18)).take 18)/\18 - zy.1<18 - x3.1/\tnV x3.2.2=tnV zy.2.2/\Value.int .i64 (((x3.1:Nat):Int)+1)= .int .i64 ((zy.1:Nat):Int)/\sv x7=sv zy.2.1/\(ss 3 x7)=(ss 3 zy.2.1)/\True))))))/\((decide (((x3.1:Nat):Int)<(18:Int)))=false->ref13_Supply_Q xs t (sv x3.2.1) (ss 3 x3.2.1))))):=by kernel_rfl
set_option maxRecDepth 100000 in
set_option maxHeartbeats 2000000 in
theorem ref13_Supply (xs:List Int) (t:Int) (r_xs:okT 72 xs) (wt:(Lit.int .u8 t).wf=true) (ht:t<4):ref13_Supply_A xs t (fun za zh zv zu zp=>CallT Tryz.prog 45 za zh Row zv zu zp):=by
  refine call_of (c:=bodyOf Tryz.f45) (n:=21) (fn:=Tryz.f45) Tryz.mixed Tryz.func45 (by kernel_rfl) (by kernel_rfl) (by kernel_rfl) 2000 _ [] [40] rfl rfl (Eq.mpr (ref13_Supply_vc xs t) ?_)
  have wt' :=wf8' wt
  refine opQ_mk (xtbox 33 xs) (⟨0,trivial⟩) fun x1 h1=>⟨xaidxK (n:=4) (e:=30) (K:=72) (by kernel_rfl) (fun w=>by kernel_rfl) x1 0 .u8 t (by omega) (by omega),opQr_mk (xtpartV (m:=72) (0+Int.toNat t*18) 18 72 (fun w=>by kernel_rfl) (fun w=>by kernel_rfl) rfl x1 33 (by assumption) (0+Int.toNat t*72) (by omega) (by omega)) (wtpart (m:=72) (by assumption) 18 (0+Int.toNat t*18) _ (by omega) (by omega)) fun x2 h2=> ?_⟩
  have rh2:=h2.1
  replace h2:=etpart (m:=72) (n:=(0+Int.toNat t*18)) (by assumption) (by omega) h2
  have hld:=h2
  have rhld:=rh2
  refine ⟨?_,fun x3 jx3 h3=> ?_⟩
  · exact ⟨(0,Row.nil,x2),⟨Nat.zero_le _,RowOK.nil,show ([]:List Int).getLast? ≠some 0 by simp,rfl,rhld,hld⟩,rfl,rfl,rfl,rfl,trivial⟩
  obtain ⟨j18,ry,cy,sy,oy,ey⟩:=h3
  have ly:(dg x3.2.1).length<=17:=len17 ry.dig cy (i:=18) (by decide) (by rw [sy];have q:=(rsum_bound r_xs t x3.1).2;unfold M256 at *;omega)
  refine ⟨fun h4=> ?_,fun h4=> ?_⟩
  · refine opQr_mk (xtidxV (n:=18) (e:=29) (by kernel_rfl) (fun w=>by kernel_rfl) (fun w=>by kernel_rfl) (show okT 18 x3.2.2 by assumption) .i64 ((x3.1:Nat):Int) (by omega) (by (try simp (disch:=first | assumption | exact R4_zero | exact R4_one) only [rdx] at *);omega)) (wtidx (n:=18) (show okT 18 x3.2.2 by assumption) _) fun x4 h5=> ?_
    have rh5:=h5.1
    replace h5:=etidx (n:=18) (show okT 18 x3.2.2 by assumption) h5
    have hix:=h5
    intro b5
    refine rdQ_mk 4 _ (rdQ_mk 4 _ (ref2_Row_m x4 (fun x6 rh6_ h6=> ?_)))
    have hR:=h6
    refine ref1_Add_m x3.2.1 x6 (fun x7 rh7_ h7=> ?_)
    have hA:=h7
    refine ⟨⟨(),trivial,congrArg (Value.int .i64) (wrap_i64 _ (by omega) (by (try simp (disch:=first | assumption | exact R4_zero | exact R4_one) only [rdx] at *);omega))⟩,fun _=>fun _=> ?_⟩
    have j17:x3.1<18:=by (try simp (disch:=first | assumption | exact R4_zero | exact R4_one) only [rdx] at *);omega
    exact ⟨(x3.1+1,x7,x3.2.2),⟨j17,by assumption,hA.2,by dsimp only;rw [hA.1,sy,hR.1,hix,ey,Int.toNat_natCast,rsum_row j17 (wf8' wt).1];rfl,oy,ey⟩,by dsimp only;omega,rfl,congrArg (Value.int .i64) (by dsimp only;omega),rfl,rfl,trivial⟩
  unfold ref13_Supply_Q
  have e18:x3.1=18:=by (try simp (disch:=first | assumption | exact R4_zero | exact R4_one) only [rdx] at *);omega
  rw [e18] at sy
  exact ⟨x3.2.1,⟨ry,by rw [utn_tnV r_xs];exact sy,cy⟩,rfl,rfl,trivial⟩
abbrev ref13_Supply_K (xs:List Int) (t:Int) (KK:Row->Prop):Prop:=ref13_Supply_A xs t (fun za zh zv zu zp=>callQ Tryz.prog 45 za zh Row zv zu zp KK)
theorem ref13_Supply_m (xs:List Int) (t:Int) {KK:Row->Prop} (kont: ∀zx:Row,RowOK zx->(nv (dg zx)=rsum xs t 18/\Canon (dg zx))->KK zx) (r_xs:okT 72 xs:=by assumption) (wt:(Lit.int .u8 t).wf=true:=by first | assumption | decide) (ht:t<4:=by omega):ref13_Supply_K xs t KK:=callQ_mk (ref13_Supply xs t r_xs wt ht) (wit_rsum (by first | assumption | exact okT_zero72 | (rw [utn_tnV (n:=72) (by assumption)];assumption)) _) fun zx hz=>by
  obtain ⟨rhz_,hz⟩:=hz
  try simp only [utn_tnV (xs:=xs) r_xs] at hz
  exact kont zx rhz_ hz
noncomputable def ref13_Mint_C:List Value->List Slot->Ctr:=fun vs hs=>⟨List Int×Int,fun zx=> .tuple #[tnV zx.1, .int .i64 zx.2],fun _=>hs,fun zx=>okT 72 zx.1/\zx=rMint (utn (varg vs 1)) (ci (varg vs 2)) (ci (varg vs 3)) (num (varg vs 4))⟩
abbrev ref13_Mint_Q (xs:List Int) (t p n:Int) (zv:Value) :Prop:= ∃zx:List Int×Int,(okT 72 zx.1/\zx=rMint (utn (tnV xs)) t p (num (vI n)))/\zv= .tuple #[tnV zx.1, .int .i64 zx.2]/\True
abbrev ref13_Mint_A (xs:List Int) (t p n:Int) (zF:SF (List Int×Int)):Prop:=zF #[tnV xs, .int .u8 t, .int .u8 p,vI n] [] (fun zx=> .tuple #[tnV zx.1, .int .i64 zx.2]) (fun zx=> []) (fun zx=>(okT 72 zx.1/\zx=rMint (utn (tnV xs)) t p (num (vI n))))
set_option maxRecDepth 100000 in
set_option maxHeartbeats 2000000 in
theorem ref13_Mint_vc (xs:List Int) (t p n:Int):ref13_Mint_A xs t p n (fun za zh zv zu zp=>codeW Tryz.prog 49 none 2000 none (bodyOf Tryz.f31) (.reg [.specw [] [0] (F_tbox 33), .sem [.nw 1], .specw [] [2] (fun _ _=>⟨Nat,ptr,fun b=> [tb b 33 (tnV (List.replicate 72 0))],fun _=>True⟩),S0] (.reg [S0,S0,S0, .sem (rds 4 1), .callr [] ref13_wrong_C,S0] (.reg [S0,S0] (.cond (.reg [.specr [0] F_tall,S0, .specw [2] [2] (F_tputall 33),S0] (.done)) (.reg [.specr [0] F_tall,S0, .callw [] [3] ref13_Supply_C, .sem (rds 4 1), .callw [] [4] ref2_Row_C, .callw [3,4] [3,4,5] ref1_Add_C, .callw [5] [5] ref2_Int_C,S0,S0,S0, .sem [.nw 6], .sem (wrs 4 6),S0] (.reg [S0,S0] (.cond (.reg [.specr [0] F_tall, .specw [2] [2] (F_tputall 33),S0] (.done)) (.reg [S0,S0,S0,S0,S0, .eq (f_tidx 72), .eq (f_tidx 4), .specr [0] F_tget, .sem (rds 4 1), .callr [] ref13_add_C,S0, .eq (f_tidx 72), .eq (f_tidx 4), .specw [0] [0] (F_tput 33)] (.reg [.specr [0] F_tall, .specw [2] [2] (F_tputall 33),S0] (.done))))))))))
    (init za zh) (finT Tryz.prog Tryz.f31 [.tab 2] [] (X:=List Int×Int) zv zu zp))=
    (opQ Tryz.prog (vS (Instr.box 33 (tnV xs))) [] Nat (fun zx=>pp zx 0) (fun zx=> [(tb zx 33 (tnV xs))]) (fun zx=>True) (fun x1=> ∀b2:Nat,opQ Tryz.prog (vS (Instr.alloc 33 true (.tuple #[]))) [] Nat (fun zx=>pp zx 0) (fun zx=> [(tb zx 33 (tnV (List.replicate 72 0)))]) (fun zx=>True) (fun x3=>rdQ 4 b2 (ref13_wrong_K t p p n (fun x4=>((x4 !=(0:Int))=true->opQr Tryz.prog (vS (Instr.loadAt 33 (pp x1 0))) [(tb x1 33 (tnV xs))] Unit (fun _=>tnV xs) (fun _=>True) (fun _=>opQ Tryz.prog (skS (Instr.storeAt 33 (pp x3 0) (tnV xs))) [(tb x3 33 (tnV (List.replicate 72 0)))] Unit (fun _=> .tuple #[]) (fun _=> [(tb x3 33 (tnV xs))]) (fun _=>True) (fun _=>(TabLoad Tryz.prog 33 (tb x3 33 (tnV xs)) (pp x3 0) (tnV xs))/\ref13_Mint_Q xs t p n (Value.tuple #[tnV xs, .int .i64 x4]))))/\((x4 !=(0:Int))=false->opQr Tryz.prog (vS (Instr.loadAt 33 (pp x1 0))) [(tb x1 33 (tnV xs))] Unit (fun _=>tnV xs) (fun _=>True) (fun _=>ref13_Supply_K xs t (fun x5=>rdQ 4 b2 (ref2_Row_K n (fun x6=>ref1_Add_K x5 x6 (fun x7=>ref2_Int_K x7 (fun x8=> ∀b9:Nat,rdQ 4 b9 (((!x8.2)=true->opQr Tryz.prog (vS (Instr.loadAt 33 (pp x1 0))) [(tb x1 33 (tnV xs))] Unit (fun _=>tnV xs) (fun _=>True) (fun _=>opQ Tryz.prog (skS (Instr.storeAt 33 (pp x3 0) (tnV xs))) [(tb x3 33 (tnV (List.replicate 72 0)))] Unit (fun _=> .tuple #[]) (fun _=> [(tb x3 33 (tnV xs))]) (fun _=>True) (fun _=>(TabLoad Tryz.prog 33 (tb x3 33 (tnV xs)) (pp x3 0) (tnV xs))/\ref13_Mint_Q xs t p n (Value.tuple #[tnV xs, .int .i64 2]))))/\((!x8.2)=false->(PureRun Tryz.prog (vS (Instr.indexAt 31 (pp x1 0) (.int .u8 t))) (.pointer (some ⟨x1,(0+Int.toNat t*72),none⟩)))/\(PureRun Tryz.prog (vS (Instr.indexAt 30 (.pointer (some ⟨x1,(0+Int.toNat t*72),none⟩)) (.int .u8 p))) (.pointer (some ⟨x1,((0+Int.toNat t*72)+Int.toNat p*4),none⟩)))/\opQr Tryz.prog (vS (Instr.loadAt 29 (.pointer (some ⟨x1,((0+Int.toNat t*72)+Int.toNat p*4),none⟩)))) [(tb x1 33 (tnV xs))] Int (fun zx=>vI zx) (fun zx=>R4 zx/\zx=tget (sval (tb x1 33 (tnV xs))) (((0+Int.toNat t*72)+Int.toNat p*4)/4)) (fun x10=>rdQ 4 b2 (ref13_add_K x10 n (fun x11=>(PureRun Tryz.prog (vS (Instr.indexAt 31 (pp x1 0) (.int .u8 t))) (.pointer (some ⟨x1,(0+Int.toNat t*72),none⟩)))/\(PureRun Tryz.prog (vS (Instr.indexAt 30 (.pointer (some ⟨x1,(0+Int.toNat t*72),none⟩)) (.int .u8 p))) (.pointer (some ⟨x1,((0+Int.toNat t*72)+Int.toNat p*4),none⟩)))/\opQ Tryz.prog (skS (Instr.storeAt 29 (.pointer (some ⟨x1,((0+Int.toNat t*72)+Int.toNat p*4),none⟩)) (vI x11))) [(tb x1 33 (tnV xs))] (List Int) (fun zx=> .tuple #[]) (fun zx=> [(tb x1 33 (tnV zx))]) (fun zx=>zx=tset (utn (sval (tb x1 33 (tnV xs)))) (((0+Int.toNat t*72)+Int.toNat p*4)/4) (utn (vI x11))) (fun x12=>opQr Tryz.prog (vS (Instr.loadAt 33 (pp x1 0))) [(tb x1 33 (tnV x12))] Unit (fun _=>tnV x12) (fun _=>True) (fun _=>opQ Tryz.prog (skS (Instr.storeAt 33 (pp x3 0) (tnV x12))) [(tb x3 33 (tnV (List.replicate 72 0)))] Unit (fun _=> .tuple #[]) (fun _=> [(tb x3 33 (tnV x12))]) (fun _=>True) (fun _=>(TabLoad Tryz.prog 33 (tb x3 33 (tnV x12)) (pp x3 0) (tnV x12))/\ref13_Mint_Q xs t p n (Value.tuple #[tnV x12, .int .i64 0]))))))))))))))))))))):=by kernel_rfl
set_option maxRecDepth 100000 in
set_option maxHeartbeats 2000000 in
theorem ref13_Mint (xs:List Int) (t p n:Int) (r_xs:okT 72 xs) (r_n:R4 n) (wt:(Lit.int .u8 t).wf=true) (wp:(Lit.int .u8 p).wf=true):ref13_Mint_A xs t p n (fun za zh zv zu zp=>CallT Tryz.prog 31 za zh (List Int×Int) zv zu zp):=by
  refine call_of_tab (c:=bodyOf Tryz.f31) (n:=49) (fn:=Tryz.f31) Tryz.mixed Tryz.func31 (by kernel_rfl) (by kernel_rfl) (by kernel_rfl) 2000 _ [.tab 2] [] rfl rfl (Eq.mpr (ref13_Mint_vc xs t p n) ?_)
  have wt' :=wf8' wt;have wp' :=wf8' wp
  refine opQ_mk (xtbox 33 xs) (⟨0,trivial⟩) fun x1 h1=>fun b2=>opQ_mk (xtalloc 33 (List.replicate 72 0) (fun w=>by kernel_rfl)) (⟨0,trivial⟩) fun x3 h2=>rdQ_mk 4 _ (ref13_wrong_m t p p n (fun x4 h3=> ?_))
  have hw:=h3
  refine ⟨fun h4=> ?_,fun h4=> ?_⟩
  · exact opQr_mk (xtall (m:=72) 288 (fun w=>by kernel_rfl) (fun w=>by kernel_rfl) rfl x1 33 (show okT 72 xs from (by assumption)).1) (⟨(),trivial⟩) fun _ _=>opQ_mk (xtputall (m:=72) 288 (fun w=>by kernel_rfl) x3 33 (show okT 72 (List.replicate 72 0) from (okT_zero 72)).1 (show okT 72 xs from (by assumption)).1 rfl) (⟨(),trivial⟩) fun _ _=>⟨tab_load (m:=72) 288 (fun w=>by kernel_rfl) (fun w=>by kernel_rfl) rfl (show okT 72 xs by first | assumption | exact okT_zero _).1,⟨(xs,x4),⟨by assumption,by rw [utn_tnV r_xs,num_vI r_n];exact (rMint_w hw (bne_iff_ne.1 h4)).symm⟩,rfl,trivial⟩⟩
  have hw0:=bne_eq_false_iff_eq.1 h4
  rw [hw0] at hw
  obtain ⟨t4,p18,q18,n0⟩:=rW0 hw
  refine opQr_mk (xtall (m:=72) 288 (fun w=>by kernel_rfl) (fun w=>by kernel_rfl) rfl x1 33 (show okT 72 xs from (by assumption)).1) (⟨(),trivial⟩) fun _ _=>ref13_Supply_m xs t (fun x5 rh5_ h5=> ?_) (wt:=wt) (ht:=t4)
  have hS:=h5
  have okS_:RowOK x5:=by assumption
  have lS:(dg x5).length<=17:=len17 okS_.dig hS.2 (i:=18) (by decide) (by rw [hS.1];have q:=(rsum_bound r_xs t 18).2;unfold M256 at *;omega)
  refine rdQ_mk 4 _ (ref2_Row_m n (fun x6 rh6_ h6=> ?_))
  have hR:=h6
  refine ref1_Add_m x5 x6 (fun x7 rh7_ h7=> ?_)
  have hA:=h7
  have lA:(dg x7).length<=17:=len17 (RowOK.dig (by assumption)) hA.2 (i:=19) (by decide) (by rw [hA.1,hS.1,hR.1];have q:=(rsum_bound r_xs t 18).2;have q2:=r_n.2;unfold M256 at *;omega)
  refine ref2_Int_m x7 (fun x8 rh8_1 h8=> ?_)
  have hI:=rInt_2 h8
  rw [hA.1,hS.1,hR.1] at hI
  intro b9
  refine rdQ_mk 4 _ ⟨fun h9=> ?_,fun h9=> ?_⟩
  · exact opQr_mk (xtall (m:=72) 288 (fun w=>by kernel_rfl) (fun w=>by kernel_rfl) rfl x1 33 (show okT 72 xs from (by assumption)).1) (⟨(),trivial⟩) fun _ _=>opQ_mk (xtputall (m:=72) 288 (fun w=>by kernel_rfl) x3 33 (show okT 72 (List.replicate 72 0) from (okT_zero 72)).1 (show okT 72 xs from (by assumption)).1 rfl) (⟨(),trivial⟩) fun _ _=>⟨tab_load (m:=72) 288 (fun w=>by kernel_rfl) (fun w=>by kernel_rfl) rfl (show okT 72 xs by first | assumption | exact okT_zero _).1,⟨(xs,2),⟨by assumption,by rw [utn_tnV r_xs,num_vI r_n];exact (rMint_ov hw (hI.2 (by simpa using h9))).symm⟩,rfl,trivial⟩⟩
  refine ⟨xaidxK (n:=4) (e:=30) (K:=72) (by kernel_rfl) (fun w=>by kernel_rfl) x1 0 .u8 t (by omega) (by omega),xaidxK (n:=18) (e:=29) (K:=4) (by kernel_rfl) (fun w=>by kernel_rfl) x1 (0+Int.toNat t*72) .u8 p (by omega) (by omega),opQr_mk (xtget (m:=72) ((0+Int.toNat t*18)+Int.toNat p*1) (fun w=>by kernel_rfl) (fun w=>by kernel_rfl) x1 33 (by assumption) ((0+Int.toNat t*72)+Int.toNat p*4) (by omega) (by omega)) (wtget (m:=72) (by assumption) _) fun x10 h10=> ?_⟩
  have rh10:=h10.1
  replace h10:=etget (m:=72) (n:=((0+Int.toNat t*18)+Int.toNat p*1)) (by assumption) (by omega) h10
  have hg:=h10
  refine rdQ_mk 4 _ (ref13_add_m x10 n (fun x11 rh11_ h11=> ?_))
  have hv:=h11
  refine ⟨xaidxK (n:=4) (e:=30) (K:=72) (by kernel_rfl) (fun w=>by kernel_rfl) x1 0 .u8 t (by omega) (by omega),xaidxK (n:=18) (e:=29) (K:=4) (by kernel_rfl) (fun w=>by kernel_rfl) x1 (0+Int.toNat t*72) .u8 p (by omega) (by omega),opQ_mk (xtput (m:=72) 4 ((0+Int.toNat t*18)+Int.toNat p*1) (fun w=>by kernel_rfl) x1 33 (by assumption) [x11] (R4s1 (by assumption)) ((0+Int.toNat t*72)+Int.toNat p*4) (by omega) rfl (by simp only [List.length_cons,List.length_nil];omega)) (⟨_,rfl⟩) fun x12 h12=> ?_⟩
  replace h12:=etput (m:=72) (n:=((0+Int.toNat t*18)+Int.toNat p*1)) (ys:= [x11]) (by assumption) (R4s1 (by assumption)) (by omega) h12
  have th12:okT 72 x12:=by rw [h12];exact okT.tset (by assumption) (R4s1 (by assumption)) (by simp only [List.length_cons,List.length_nil];omega)
  have hy:=h12
  exact opQr_mk (xtall (m:=72) 288 (fun w=>by kernel_rfl) (fun w=>by kernel_rfl) rfl x1 33 (show okT 72 x12 from (by assumption)).1) (⟨(),trivial⟩) fun _ _=>opQ_mk (xtputall (m:=72) 288 (fun w=>by kernel_rfl) x3 33 (show okT 72 (List.replicate 72 0) from (okT_zero 72)).1 (show okT 72 x12 from (by assumption)).1 rfl) (⟨(),trivial⟩) fun _ _=>⟨tab_load (m:=72) 288 (fun w=>by kernel_rfl) (fun w=>by kernel_rfl) rfl (show okT 72 x12 by first | assumption | exact okT_zero _).1,⟨(x12,0),⟨by assumption,by rw [utn_tnV r_xs,num_vI r_n];exact (rMint_ok hw (hI.1 (by simpa using h9)).1 (hv.trans (by rw [hg];rfl)) hy).symm⟩,rfl,trivial⟩⟩
abbrev ref13_Mint_K (xs:List Int) (t p n:Int) (KK:(List Int×Int)->Prop):Prop:=ref13_Mint_A xs t p n (fun za zh zv zu zp=>callQr Tryz.prog 31 za zh (List Int×Int) zv zp KK)
theorem ref13_Mint_m (xs:List Int) (t p n:Int) {KK:(List Int×Int)->Prop} (kont: ∀zx:List Int×Int,okT 72 zx.1->(zx=rMint xs t p n)->KK zx) (r_xs:okT 72 xs:=by assumption) (r_n:R4 n:=by assumption) (wt:(Lit.int .u8 t).wf=true:=by first | assumption | decide) (wp:(Lit.int .u8 p).wf=true:=by first | assumption | decide):ref13_Mint_K xs t p n KK:=callQr_mk (ref13_Mint xs t p n r_xs r_n wt wp) (⟨_,rMint_R (by first | assumption | exact okT_zero72 | (rw [utn_tnV (n:=72) (by assumption)];assumption)) (by first | exact R4_num _ | exact r_n) (wf8' (by first | assumption | decide)).1 (wf8' (by first | assumption | decide)).1,rfl⟩) fun zx hz=>by
  obtain ⟨rhz_1,hz⟩:=hz
  try simp only [utn_tnV (xs:=xs) r_xs,num_vI (n:=n) r_n] at hz
  exact kont zx rhz_1 hz
noncomputable def ref13_Burn_C:List Value->List Slot->Ctr:=fun vs hs=>⟨List Int×Int,fun zx=> .tuple #[tnV zx.1, .int .i64 zx.2],fun _=>hs,fun zx=>okT 72 zx.1/\zx=rBurn (utn (varg vs 1)) (ci (varg vs 2)) (ci (varg vs 3)) (num (varg vs 4))⟩
abbrev ref13_Burn_Q (xs:List Int) (t p n:Int) (zv:Value) :Prop:= ∃zx:List Int×Int,(okT 72 zx.1/\zx=rBurn (utn (tnV xs)) t p (num (vI n)))/\zv= .tuple #[tnV zx.1, .int .i64 zx.2]/\True
abbrev ref13_Burn_A (xs:List Int) (t p n:Int) (zF:SF (List Int×Int)):Prop:=zF #[tnV xs, .int .u8 t, .int .u8 p,vI n] [] (fun zx=> .tuple #[tnV zx.1, .int .i64 zx.2]) (fun zx=> []) (fun zx=>(okT 72 zx.1/\zx=rBurn (utn (tnV xs)) t p (num (vI n))))
set_option maxRecDepth 100000 in
set_option maxHeartbeats 2000000 in
theorem ref13_Burn_vc (xs:List Int) (t p n:Int):ref13_Burn_A xs t p n (fun za zh zv zu zp=>codeW Tryz.prog 43 none 2000 none (bodyOf Tryz.f32) (.reg [.specw [] [0] (F_tbox 33), .sem [.nw 1], .specw [] [2] (fun _ _=>⟨Nat,ptr,fun b=> [tb b 33 (tnV (List.replicate 72 0))],fun _=>True⟩),S0] (.reg [S0,S0,S0, .sem (rds 4 1), .callr [] ref13_wrong_C,S0] (.reg [S0,S0] (.cond (.reg [.specr [0] F_tall,S0, .specw [2] [2] (F_tputall 33),S0] (.done)) (.reg [S0,S0,S0, .eq (f_tidx 72), .eq (f_tidx 4), .specr [0] F_tget, .sem (rds 4 1), .callr [] ref13_Less_C] (.cond (.reg [.specr [0] F_tall, .specw [2] [2] (F_tputall 33),S0] (.done)) (.reg [S0,S0,S0,S0,S0, .eq (f_tidx 72), .eq (f_tidx 4), .specr [0] F_tget, .sem (rds 4 1), .callr [] ref13_sub_C,S0, .eq (f_tidx 72), .eq (f_tidx 4), .specw [0] [0] (F_tput 33)] (.reg [.specr [0] F_tall, .specw [2] [2] (F_tputall 33),S0] (.done)))))))))
    (init za zh) (finT Tryz.prog Tryz.f32 [.tab 2] [] (X:=List Int×Int) zv zu zp))=
    (opQ Tryz.prog (vS (Instr.box 33 (tnV xs))) [] Nat (fun zx=>pp zx 0) (fun zx=> [(tb zx 33 (tnV xs))]) (fun zx=>True) (fun x1=> ∀b2:Nat,opQ Tryz.prog (vS (Instr.alloc 33 true (.tuple #[]))) [] Nat (fun zx=>pp zx 0) (fun zx=> [(tb zx 33 (tnV (List.replicate 72 0)))]) (fun zx=>True) (fun x3=>rdQ 4 b2 (ref13_wrong_K t p p n (fun x4=>((x4 !=(0:Int))=true->opQr Tryz.prog (vS (Instr.loadAt 33 (pp x1 0))) [(tb x1 33 (tnV xs))] Unit (fun _=>tnV xs) (fun _=>True) (fun _=>opQ Tryz.prog (skS (Instr.storeAt 33 (pp x3 0) (tnV xs))) [(tb x3 33 (tnV (List.replicate 72 0)))] Unit (fun _=> .tuple #[]) (fun _=> [(tb x3 33 (tnV xs))]) (fun _=>True) (fun _=>(TabLoad Tryz.prog 33 (tb x3 33 (tnV xs)) (pp x3 0) (tnV xs))/\ref13_Burn_Q xs t p n (Value.tuple #[tnV xs, .int .i64 x4]))))/\((x4 !=(0:Int))=false->(PureRun Tryz.prog (vS (Instr.indexAt 31 (pp x1 0) (.int .u8 t))) (.pointer (some ⟨x1,(0+Int.toNat t*72),none⟩)))/\(PureRun Tryz.prog (vS (Instr.indexAt 30 (.pointer (some ⟨x1,(0+Int.toNat t*72),none⟩)) (.int .u8 p))) (.pointer (some ⟨x1,((0+Int.toNat t*72)+Int.toNat p*4),none⟩)))/\opQr Tryz.prog (vS (Instr.loadAt 29 (.pointer (some ⟨x1,((0+Int.toNat t*72)+Int.toNat p*4),none⟩)))) [(tb x1 33 (tnV xs))] Int (fun zx=>vI zx) (fun zx=>R4 zx/\zx=tget (sval (tb x1 33 (tnV xs))) (((0+Int.toNat t*72)+Int.toNat p*4)/4)) (fun x5=>rdQ 4 b2 (ref13_Less_K x5 n (fun x6=>(x6=true->opQr Tryz.prog (vS (Instr.loadAt 33 (pp x1 0))) [(tb x1 33 (tnV xs))] Unit (fun _=>tnV xs) (fun _=>True) (fun _=>opQ Tryz.prog (skS (Instr.storeAt 33 (pp x3 0) (tnV xs))) [(tb x3 33 (tnV (List.replicate 72 0)))] Unit (fun _=> .tuple #[]) (fun _=> [(tb x3 33 (tnV xs))]) (fun _=>True) (fun _=>(TabLoad Tryz.prog 33 (tb x3 33 (tnV xs)) (pp x3 0) (tnV xs))/\ref13_Burn_Q xs t p n (Value.tuple #[tnV xs, .int .i64 8]))))/\(x6=false->(PureRun Tryz.prog (vS (Instr.indexAt 31 (pp x1 0) (.int .u8 t))) (.pointer (some ⟨x1,(0+Int.toNat t*72),none⟩)))/\(PureRun Tryz.prog (vS (Instr.indexAt 30 (.pointer (some ⟨x1,(0+Int.toNat t*72),none⟩)) (.int .u8 p))) (.pointer (some ⟨x1,((0+Int.toNat t*72)+Int.toNat p*4),none⟩)))/\opQr Tryz.prog (vS (Instr.loadAt 29 (.pointer (some ⟨x1,((0+Int.toNat t*72)+Int.toNat p*4),none⟩)))) [(tb x1 33 (tnV xs))] Int (fun zx=>vI zx) (fun zx=>R4 zx/\zx=tget (sval (tb x1 33 (tnV xs))) (((0+Int.toNat t*72)+Int.toNat p*4)/4)) (fun x7=>rdQ 4 b2 (ref13_sub_K x7 n (fun x8=>(PureRun Tryz.prog (vS (Instr.indexAt 31 (pp x1 0) (.int .u8 t))) (.pointer (some ⟨x1,(0+Int.toNat t*72),none⟩)))/\(PureRun Tryz.prog (vS (Instr.indexAt 30 (.pointer (some ⟨x1,(0+Int.toNat t*72),none⟩)) (.int .u8 p))) (.pointer (some ⟨x1,((0+Int.toNat t*72)+Int.toNat p*4),none⟩)))/\opQ Tryz.prog (skS (Instr.storeAt 29 (.pointer (some ⟨x1,((0+Int.toNat t*72)+Int.toNat p*4),none⟩)) (vI x8))) [(tb x1 33 (tnV xs))] (List Int) (fun zx=> .tuple #[]) (fun zx=> [(tb x1 33 (tnV zx))]) (fun zx=>zx=tset (utn (sval (tb x1 33 (tnV xs)))) (((0+Int.toNat t*72)+Int.toNat p*4)/4) (utn (vI x8))) (fun x9=>opQr Tryz.prog (vS (Instr.loadAt 33 (pp x1 0))) [(tb x1 33 (tnV x9))] Unit (fun _=>tnV x9) (fun _=>True) (fun _=>opQ Tryz.prog (skS (Instr.storeAt 33 (pp x3 0) (tnV x9))) [(tb x3 33 (tnV (List.replicate 72 0)))] Unit (fun _=> .tuple #[]) (fun _=> [(tb x3 33 (tnV x9))]) (fun _=>True) (fun _=>(TabLoad Tryz.prog 33 (tb x3 33 (tnV x9)) (pp x3 0) (tnV x9))/\ref13_Burn_Q xs t p n (Value.tuple #[tnV x9, .int .i64 0]))))))))))))))))):=by kernel_rfl
set_option maxRecDepth 100000 in
set_option maxHeartbeats 2000000 in
theorem ref13_Burn (xs:List Int) (t p n:Int) (r_xs:okT 72 xs) (r_n:R4 n) (wt:(Lit.int .u8 t).wf=true) (wp:(Lit.int .u8 p).wf=true):ref13_Burn_A xs t p n (fun za zh zv zu zp=>CallT Tryz.prog 32 za zh (List Int×Int) zv zu zp):=by
  refine call_of_tab (c:=bodyOf Tryz.f32) (n:=43) (fn:=Tryz.f32) Tryz.mixed Tryz.func32 (by kernel_rfl) (by kernel_rfl) (by kernel_rfl) 2000 _ [.tab 2] [] rfl rfl (Eq.mpr (ref13_Burn_vc xs t p n) ?_)
  have wt' :=wf8' wt;have wp' :=wf8' wp
  refine opQ_mk (xtbox 33 xs) (⟨0,trivial⟩) fun x1 h1=>fun b2=>opQ_mk (xtalloc 33 (List.replicate 72 0) (fun w=>by kernel_rfl)) (⟨0,trivial⟩) fun x3 h2=>rdQ_mk 4 _ (ref13_wrong_m t p p n (fun x4 h3=> ?_))
  have hw:=h3
  refine ⟨fun h4=> ?_,fun h4=> ?_⟩
  · exact opQr_mk (xtall (m:=72) 288 (fun w=>by kernel_rfl) (fun w=>by kernel_rfl) rfl x1 33 (show okT 72 xs from (by assumption)).1) (⟨(),trivial⟩) fun _ _=>opQ_mk (xtputall (m:=72) 288 (fun w=>by kernel_rfl) x3 33 (show okT 72 (List.replicate 72 0) from (okT_zero 72)).1 (show okT 72 xs from (by assumption)).1 rfl) (⟨(),trivial⟩) fun _ _=>⟨tab_load (m:=72) 288 (fun w=>by kernel_rfl) (fun w=>by kernel_rfl) rfl (show okT 72 xs by first | assumption | exact okT_zero _).1,⟨(xs,x4),⟨by assumption,by rw [utn_tnV r_xs,num_vI r_n];exact (rBurn_w hw (bne_iff_ne.1 h4)).symm⟩,rfl,trivial⟩⟩
  have hw0:=bne_eq_false_iff_eq.1 h4
  rw [hw0] at hw
  obtain ⟨t4,p18,q18,n0⟩:=rW0 hw
  refine ⟨xaidxK (n:=4) (e:=30) (K:=72) (by kernel_rfl) (fun w=>by kernel_rfl) x1 0 .u8 t (by omega) (by omega),xaidxK (n:=18) (e:=29) (K:=4) (by kernel_rfl) (fun w=>by kernel_rfl) x1 (0+Int.toNat t*72) .u8 p (by omega) (by omega),opQr_mk (xtget (m:=72) ((0+Int.toNat t*18)+Int.toNat p*1) (fun w=>by kernel_rfl) (fun w=>by kernel_rfl) x1 33 (by assumption) ((0+Int.toNat t*72)+Int.toNat p*4) (by omega) (by omega)) (wtget (m:=72) (by assumption) _) fun x5 h5=> ?_⟩
  have rh5:=h5.1
  replace h5:=etget (m:=72) (n:=((0+Int.toNat t*18)+Int.toNat p*1)) (by assumption) (by omega) h5
  have hg:=h5
  refine rdQ_mk 4 _ (ref13_Less_m x5 n (fun x6 h6=> ?_))
  have hl:=h6
  refine ⟨fun h7=> ?_,fun h7=> ?_⟩
  · refine opQr_mk (xtall (m:=72) 288 (fun w=>by kernel_rfl) (fun w=>by kernel_rfl) rfl x1 33 (show okT 72 xs from (by assumption)).1) (⟨(),trivial⟩) fun _ _=>opQ_mk (xtputall (m:=72) 288 (fun w=>by kernel_rfl) x3 33 (show okT 72 (List.replicate 72 0) from (okT_zero 72)).1 (show okT 72 xs from (by assumption)).1 rfl) (⟨(),trivial⟩) fun _ _=>⟨tab_load (m:=72) 288 (fun w=>by kernel_rfl) (fun w=>by kernel_rfl) rfl (show okT 72 xs by first | assumption | exact okT_zero _).1,?_⟩
    unfold ref13_Burn_Q
    have hlt:gt xs t p<n:=by
      have q:=hl.symm.trans h7
      rw [hg] at q
      exact of_decide_eq_true q
    exact ⟨(xs,8),⟨by assumption,by rw [utn_tnV r_xs,num_vI r_n];exact (rBurn_no hw hlt).symm⟩,rfl,trivial⟩
  have hge: ¬gt xs t p<n:=by
    have q:=hl.symm.trans h7
    rw [hg] at q
    exact of_decide_eq_false q
  refine ⟨xaidxK (n:=4) (e:=30) (K:=72) (by kernel_rfl) (fun w=>by kernel_rfl) x1 0 .u8 t (by omega) (by omega),xaidxK (n:=18) (e:=29) (K:=4) (by kernel_rfl) (fun w=>by kernel_rfl) x1 (0+Int.toNat t*72) .u8 p (by omega) (by omega),opQr_mk (xtget (m:=72) ((0+Int.toNat t*18)+Int.toNat p*1) (fun w=>by kernel_rfl) (fun w=>by kernel_rfl) x1 33 (by assumption) ((0+Int.toNat t*72)+Int.toNat p*4) (by omega) (by omega)) (wtget (m:=72) (by assumption) _) fun x7 h8=> ?_⟩
  have rh8:=h8.1
  replace h8:=etget (m:=72) (n:=((0+Int.toNat t*18)+Int.toNat p*1)) (by assumption) (by omega) h8
  have hg2:=h8
  refine rdQ_mk 4 _ (ref13_sub_m x7 n (fun x8 rh9_ h9=> ?_) (hle:=by rw [hg2];exact Int.not_lt.1 hge))
  have hv:=h9
  refine ⟨xaidxK (n:=4) (e:=30) (K:=72) (by kernel_rfl) (fun w=>by kernel_rfl) x1 0 .u8 t (by omega) (by omega),xaidxK (n:=18) (e:=29) (K:=4) (by kernel_rfl) (fun w=>by kernel_rfl) x1 (0+Int.toNat t*72) .u8 p (by omega) (by omega),opQ_mk (xtput (m:=72) 4 ((0+Int.toNat t*18)+Int.toNat p*1) (fun w=>by kernel_rfl) x1 33 (by assumption) [x8] (R4s1 (by assumption)) ((0+Int.toNat t*72)+Int.toNat p*4) (by omega) rfl (by simp only [List.length_cons,List.length_nil];omega)) (⟨_,rfl⟩) fun x9 h10=> ?_⟩
  replace h10:=etput (m:=72) (n:=((0+Int.toNat t*18)+Int.toNat p*1)) (ys:= [x8]) (by assumption) (R4s1 (by assumption)) (by omega) h10
  have th10:okT 72 x9:=by rw [h10];exact okT.tset (by assumption) (R4s1 (by assumption)) (by simp only [List.length_cons,List.length_nil];omega)
  have hy:=h10
  exact opQr_mk (xtall (m:=72) 288 (fun w=>by kernel_rfl) (fun w=>by kernel_rfl) rfl x1 33 (show okT 72 x9 from (by assumption)).1) (⟨(),trivial⟩) fun _ _=>opQ_mk (xtputall (m:=72) 288 (fun w=>by kernel_rfl) x3 33 (show okT 72 (List.replicate 72 0) from (okT_zero 72)).1 (show okT 72 x9 from (by assumption)).1 rfl) (⟨(),trivial⟩) fun _ _=>⟨tab_load (m:=72) 288 (fun w=>by kernel_rfl) (fun w=>by kernel_rfl) rfl (show okT 72 x9 by first | assumption | exact okT_zero _).1,⟨(x9,0),⟨by assumption,by rw [utn_tnV r_xs,num_vI r_n];exact (rBurn_ok hw hge (hv.trans (by rw [hg2];rfl)) hy).symm⟩,rfl,trivial⟩⟩
abbrev ref13_Burn_K (xs:List Int) (t p n:Int) (KK:(List Int×Int)->Prop):Prop:=ref13_Burn_A xs t p n (fun za zh zv zu zp=>callQr Tryz.prog 32 za zh (List Int×Int) zv zp KK)
theorem ref13_Burn_m (xs:List Int) (t p n:Int) {KK:(List Int×Int)->Prop} (kont: ∀zx:List Int×Int,okT 72 zx.1->(zx=rBurn xs t p n)->KK zx) (r_xs:okT 72 xs:=by assumption) (r_n:R4 n:=by assumption) (wt:(Lit.int .u8 t).wf=true:=by first | assumption | decide) (wp:(Lit.int .u8 p).wf=true:=by first | assumption | decide):ref13_Burn_K xs t p n KK:=callQr_mk (ref13_Burn xs t p n r_xs r_n wt wp) (⟨_,rBurn_R (by first | assumption | exact okT_zero72 | (rw [utn_tnV (n:=72) (by assumption)];assumption)) (by first | exact R4_num _ | exact r_n) (wf8' (by first | assumption | decide)).1 (wf8' (by first | assumption | decide)).1,rfl⟩) fun zx hz=>by
  obtain ⟨rhz_1,hz⟩:=hz
  try simp only [utn_tnV (xs:=xs) r_xs,num_vI (n:=n) r_n] at hz
  exact kont zx rhz_1 hz
noncomputable def ref13_Move_C:List Value->List Slot->Ctr:=fun vs hs=>⟨List Int×Int,fun zx=> .tuple #[tnV zx.1, .int .i64 zx.2],fun _=>hs,fun zx=>okT 72 zx.1/\zx=rMove (utn (varg vs 1)) (ci (varg vs 2)) (ci (varg vs 3)) (ci (varg vs 4)) (num (varg vs 5))⟩
abbrev ref13_Move_Q (xs:List Int) (t p q n:Int) (zv:Value) :Prop:= ∃zx:List Int×Int,(okT 72 zx.1/\zx=rMove (utn (tnV xs)) t p q (num (vI n)))/\zv= .tuple #[tnV zx.1, .int .i64 zx.2]/\True
abbrev ref13_Move_A (xs:List Int) (t p q n:Int) (zF:SF (List Int×Int)):Prop:=zF #[tnV xs, .int .u8 t, .int .u8 p, .int .u8 q,vI n] [] (fun zx=> .tuple #[tnV zx.1, .int .i64 zx.2]) (fun zx=> []) (fun zx=>(okT 72 zx.1/\zx=rMove (utn (tnV xs)) t p q (num (vI n))))
set_option maxRecDepth 100000 in
set_option maxHeartbeats 2000000 in
theorem ref13_Move_vc (xs:List Int) (t p q n:Int):ref13_Move_A xs t p q n (fun za zh zv zu zp=>codeW Tryz.prog 58 none 2000 none (bodyOf Tryz.f33) (.reg [.specw [] [0] (F_tbox 33), .sem [.nw 1], .specw [] [2] (fun _ _=>⟨Nat,ptr,fun b=> [tb b 33 (tnV (List.replicate 72 0))],fun _=>True⟩),S0] (.reg [S0,S0,S0, .sem (rds 4 1), .callr [] ref13_wrong_C,S0] (.reg [S0,S0] (.cond (.reg [.specr [0] F_tall,S0, .specw [2] [2] (F_tputall 33),S0] (.done)) (.reg [S0,S0,S0, .eq (f_tidx 72), .eq (f_tidx 4), .specr [0] F_tget, .sem (rds 4 1), .callr [] ref13_Less_C] (.cond (.reg [.specr [0] F_tall, .specw [2] [2] (F_tputall 33),S0] (.done)) (.reg [S0,S0,S0,S0,S0, .eq (f_tidx 72), .eq (f_tidx 4), .specr [0] F_tget, .sem (rds 4 1), .callr [] ref13_sub_C,S0, .eq (f_tidx 72), .eq (f_tidx 4), .specw [0] [0] (F_tput 33)] (.reg [S0,S0,S0,S0,S0, .eq (f_tidx 72), .eq (f_tidx 4), .specr [0] F_tget, .sem (rds 4 1), .callr [] ref13_add_C,S0, .eq (f_tidx 72), .eq (f_tidx 4), .specw [0] [0] (F_tput 33)] (.reg [.specr [0] F_tall, .specw [2] [2] (F_tputall 33),S0] (.done))))))))))
    (init za zh) (finT Tryz.prog Tryz.f33 [.tab 2] [] (X:=List Int×Int) zv zu zp))=
    (opQ Tryz.prog (vS (Instr.box 33 (tnV xs))) [] Nat (fun zx=>pp zx 0) (fun zx=> [(tb zx 33 (tnV xs))]) (fun zx=>True) (fun x1=> ∀b2:Nat,opQ Tryz.prog (vS (Instr.alloc 33 true (.tuple #[]))) [] Nat (fun zx=>pp zx 0) (fun zx=> [(tb zx 33 (tnV (List.replicate 72 0)))]) (fun zx=>True) (fun x3=>rdQ 4 b2 (ref13_wrong_K t p q n (fun x4=>((x4 !=(0:Int))=true->opQr Tryz.prog (vS (Instr.loadAt 33 (pp x1 0))) [(tb x1 33 (tnV xs))] Unit (fun _=>tnV xs) (fun _=>True) (fun _=>opQ Tryz.prog (skS (Instr.storeAt 33 (pp x3 0) (tnV xs))) [(tb x3 33 (tnV (List.replicate 72 0)))] Unit (fun _=> .tuple #[]) (fun _=> [(tb x3 33 (tnV xs))]) (fun _=>True) (fun _=>(TabLoad Tryz.prog 33 (tb x3 33 (tnV xs)) (pp x3 0) (tnV xs))/\ref13_Move_Q xs t p q n (Value.tuple #[tnV xs, .int .i64 x4]))))/\((x4 !=(0:Int))=false->(PureRun Tryz.prog (vS (Instr.indexAt 31 (pp x1 0) (.int .u8 t))) (.pointer (some ⟨x1,(0+Int.toNat t*72),none⟩)))/\(PureRun Tryz.prog (vS (Instr.indexAt 30 (.pointer (some ⟨x1,(0+Int.toNat t*72),none⟩)) (.int .u8 p))) (.pointer (some ⟨x1,((0+Int.toNat t*72)+Int.toNat p*4),none⟩)))/\opQr Tryz.prog (vS (Instr.loadAt 29 (.pointer (some ⟨x1,((0+Int.toNat t*72)+Int.toNat p*4),none⟩)))) [(tb x1 33 (tnV xs))] Int (fun zx=>vI zx) (fun zx=>R4 zx/\zx=tget (sval (tb x1 33 (tnV xs))) (((0+Int.toNat t*72)+Int.toNat p*4)/4)) (fun x5=>rdQ 4 b2 (ref13_Less_K x5 n (fun x6=>(x6=true->opQr Tryz.prog (vS (Instr.loadAt 33 (pp x1 0))) [(tb x1 33 (tnV xs))] Unit (fun _=>tnV xs) (fun _=>True) (fun _=>opQ Tryz.prog (skS (Instr.storeAt 33 (pp x3 0) (tnV xs))) [(tb x3 33 (tnV (List.replicate 72 0)))] Unit (fun _=> .tuple #[]) (fun _=> [(tb x3 33 (tnV xs))]) (fun _=>True) (fun _=>(TabLoad Tryz.prog 33 (tb x3 33 (tnV xs)) (pp x3 0) (tnV xs))/\ref13_Move_Q xs t p q n (Value.tuple #[tnV xs, .int .i64 8]))))/\(x6=false->(PureRun Tryz.prog (vS (Instr.indexAt 31 (pp x1 0) (.int .u8 t))) (.pointer (some ⟨x1,(0+Int.toNat t*72),none⟩)))/\(PureRun Tryz.prog (vS (Instr.indexAt 30 (.pointer (some ⟨x1,(0+Int.toNat t*72),none⟩)) (.int .u8 p))) (.pointer (some ⟨x1,((0+Int.toNat t*72)+Int.toNat p*4),none⟩)))/\opQr Tryz.prog (vS (Instr.loadAt 29 (.pointer (some ⟨x1,((0+Int.toNat t*72)+Int.toNat p*4),none⟩)))) [(tb x1 33 (tnV xs))] Int (fun zx=>vI zx) (fun zx=>R4 zx/\zx=tget (sval (tb x1 33 (tnV xs))) (((0+Int.toNat t*72)+Int.toNat p*4)/4)) (fun x7=>rdQ 4 b2 (ref13_sub_K x7 n (fun x8=>(PureRun Tryz.prog (vS (Instr.indexAt 31 (pp x1 0) (.int .u8 t))) (.pointer (some ⟨x1,(0+Int.toNat t*72),none⟩)))/\(PureRun Tryz.prog (vS (Instr.indexAt 30 (.pointer (some ⟨x1,(0+Int.toNat t*72),none⟩)) (.int .u8 p))) (.pointer (some ⟨x1,((0+Int.toNat t*72)+Int.toNat p*4),none⟩)))/\opQ Tryz.prog (skS (Instr.storeAt 29 (.pointer (some ⟨x1,((0+Int.toNat t*72)+Int.toNat p*4),none⟩)) (vI x8))) [(tb x1 33 (tnV xs))] (List Int) (fun zx=> .tuple #[]) (fun zx=> [(tb x1 33 (tnV zx))]) (fun zx=>zx=tset (utn (sval (tb x1 33 (tnV xs)))) (((0+Int.toNat t*72)+Int.toNat p*4)/4) (utn (vI x8))) (fun x9=>(PureRun Tryz.prog (vS (Instr.indexAt 31 (pp x1 0) (.int .u8 t))) (.pointer (some ⟨x1,(0+Int.toNat t*72),none⟩)))/\(PureRun Tryz.prog (vS (Instr.indexAt 30 (.pointer (some ⟨x1,(0+Int.toNat t*72),none⟩)) (.int .u8 q))) (.pointer (some ⟨x1,((0+Int.toNat t*72)+Int.toNat q*4),none⟩)))/\opQr Tryz.prog (vS (Instr.loadAt 29 (.pointer (some ⟨x1,((0+Int.toNat t*72)+Int.toNat q*4),none⟩)))) [(tb x1 33 (tnV x9))] Int (fun zx=>vI zx) (fun zx=>R4 zx/\zx=tget (sval (tb x1 33 (tnV x9))) (((0+Int.toNat t*72)+Int.toNat q*4)/4)) (fun x10=>rdQ 4 b2 (ref13_add_K x10 n (fun x11=>(PureRun Tryz.prog (vS (Instr.indexAt 31 (pp x1 0) (.int .u8 t))) (.pointer (some ⟨x1,(0+Int.toNat t*72),none⟩)))/\(PureRun Tryz.prog (vS (Instr.indexAt 30 (.pointer (some ⟨x1,(0+Int.toNat t*72),none⟩)) (.int .u8 q))) (.pointer (some ⟨x1,((0+Int.toNat t*72)+Int.toNat q*4),none⟩)))/\opQ Tryz.prog (skS (Instr.storeAt 29 (.pointer (some ⟨x1,((0+Int.toNat t*72)+Int.toNat q*4),none⟩)) (vI x11))) [(tb x1 33 (tnV x9))] (List Int) (fun zx=> .tuple #[]) (fun zx=> [(tb x1 33 (tnV zx))]) (fun zx=>zx=tset (utn (sval (tb x1 33 (tnV x9)))) (((0+Int.toNat t*72)+Int.toNat q*4)/4) (utn (vI x11))) (fun x12=>opQr Tryz.prog (vS (Instr.loadAt 33 (pp x1 0))) [(tb x1 33 (tnV x12))] Unit (fun _=>tnV x12) (fun _=>True) (fun _=>opQ Tryz.prog (skS (Instr.storeAt 33 (pp x3 0) (tnV x12))) [(tb x3 33 (tnV (List.replicate 72 0)))] Unit (fun _=> .tuple #[]) (fun _=> [(tb x3 33 (tnV x12))]) (fun _=>True) (fun _=>(TabLoad Tryz.prog 33 (tb x3 33 (tnV x12)) (pp x3 0) (tnV x12))/\ref13_Move_Q xs t p q n (Value.tuple #[tnV x12, .int .i64 0]))))))))))))))))))))):=by kernel_rfl
set_option maxRecDepth 100000 in
set_option maxHeartbeats 2000000 in
theorem ref13_Move (xs:List Int) (t p q n:Int) (r_xs:okT 72 xs) (r_n:R4 n) (wt:(Lit.int .u8 t).wf=true) (wp:(Lit.int .u8 p).wf=true) (wq:(Lit.int .u8 q).wf=true):ref13_Move_A xs t p q n (fun za zh zv zu zp=>CallT Tryz.prog 33 za zh (List Int×Int) zv zu zp):=by
  refine call_of_tab (c:=bodyOf Tryz.f33) (n:=58) (fn:=Tryz.f33) Tryz.mixed Tryz.func33 (by kernel_rfl) (by kernel_rfl) (by kernel_rfl) 2000 _ [.tab 2] [] rfl rfl (Eq.mpr (ref13_Move_vc xs t p q n) ?_)
  have wt' :=wf8' wt;have wp' :=wf8' wp;have wq' :=wf8' wq
  refine opQ_mk (xtbox 33 xs) (⟨0,trivial⟩) fun x1 h1=>fun b2=>opQ_mk (xtalloc 33 (List.replicate 72 0) (fun w=>by kernel_rfl)) (⟨0,trivial⟩) fun x3 h2=>rdQ_mk 4 _ (ref13_wrong_m t p q n (fun x4 h3=> ?_))
  have hw:=h3
  refine ⟨fun h4=> ?_,fun h4=> ?_⟩
  · exact opQr_mk (xtall (m:=72) 288 (fun w=>by kernel_rfl) (fun w=>by kernel_rfl) rfl x1 33 (show okT 72 xs from (by assumption)).1) (⟨(),trivial⟩) fun _ _=>opQ_mk (xtputall (m:=72) 288 (fun w=>by kernel_rfl) x3 33 (show okT 72 (List.replicate 72 0) from (okT_zero 72)).1 (show okT 72 xs from (by assumption)).1 rfl) (⟨(),trivial⟩) fun _ _=>⟨tab_load (m:=72) 288 (fun w=>by kernel_rfl) (fun w=>by kernel_rfl) rfl (show okT 72 xs by first | assumption | exact okT_zero _).1,⟨(xs,x4),⟨by assumption,by rw [utn_tnV r_xs,num_vI r_n];exact (rMove_w hw (bne_iff_ne.1 h4)).symm⟩,rfl,trivial⟩⟩
  have hw0:=bne_eq_false_iff_eq.1 h4
  rw [hw0] at hw
  obtain ⟨t4,p18,q18,n0⟩:=rW0 hw
  refine ⟨xaidxK (n:=4) (e:=30) (K:=72) (by kernel_rfl) (fun w=>by kernel_rfl) x1 0 .u8 t (by omega) (by omega),xaidxK (n:=18) (e:=29) (K:=4) (by kernel_rfl) (fun w=>by kernel_rfl) x1 (0+Int.toNat t*72) .u8 p (by omega) (by omega),opQr_mk (xtget (m:=72) ((0+Int.toNat t*18)+Int.toNat p*1) (fun w=>by kernel_rfl) (fun w=>by kernel_rfl) x1 33 (by assumption) ((0+Int.toNat t*72)+Int.toNat p*4) (by omega) (by omega)) (wtget (m:=72) (by assumption) _) fun x5 h5=> ?_⟩
  have rh5:=h5.1
  replace h5:=etget (m:=72) (n:=((0+Int.toNat t*18)+Int.toNat p*1)) (by assumption) (by omega) h5
  have hg:=h5
  refine rdQ_mk 4 _ (ref13_Less_m x5 n (fun x6 h6=> ?_))
  have hl:=h6
  refine ⟨fun h7=> ?_,fun h7=> ?_⟩
  · refine opQr_mk (xtall (m:=72) 288 (fun w=>by kernel_rfl) (fun w=>by kernel_rfl) rfl x1 33 (show okT 72 xs from (by assumption)).1) (⟨(),trivial⟩) fun _ _=>opQ_mk (xtputall (m:=72) 288 (fun w=>by kernel_rfl) x3 33 (show okT 72 (List.replicate 72 0) from (okT_zero 72)).1 (show okT 72 xs from (by assumption)).1 rfl) (⟨(),trivial⟩) fun _ _=>⟨tab_load (m:=72) 288 (fun w=>by kernel_rfl) (fun w=>by kernel_rfl) rfl (show okT 72 xs by first | assumption | exact okT_zero _).1,?_⟩
    unfold ref13_Move_Q
    have hlt:gt xs t p<n:=by
      have q:=hl.symm.trans h7
      rw [hg] at q
      exact of_decide_eq_true q
    exact ⟨(xs,8),⟨by assumption,by rw [utn_tnV r_xs,num_vI r_n];exact (rMove_no hw hlt).symm⟩,rfl,trivial⟩
  have hge: ¬gt xs t p<n:=by
    have q:=hl.symm.trans h7
    rw [hg] at q
    exact of_decide_eq_false q
  refine ⟨xaidxK (n:=4) (e:=30) (K:=72) (by kernel_rfl) (fun w=>by kernel_rfl) x1 0 .u8 t (by omega) (by omega),xaidxK (n:=18) (e:=29) (K:=4) (by kernel_rfl) (fun w=>by kernel_rfl) x1 (0+Int.toNat t*72) .u8 p (by omega) (by omega),opQr_mk (xtget (m:=72) ((0+Int.toNat t*18)+Int.toNat p*1) (fun w=>by kernel_rfl) (fun w=>by kernel_rfl) x1 33 (by assumption) ((0+Int.toNat t*72)+Int.toNat p*4) (by omega) (by omega)) (wtget (m:=72) (by assumption) _) fun x7 h8=> ?_⟩
  have rh8:=h8.1
  replace h8:=etget (m:=72) (n:=((0+Int.toNat t*18)+Int.toNat p*1)) (by assumption) (by omega) h8
  have hg2:=h8
  refine rdQ_mk 4 _ (ref13_sub_m x7 n (fun x8 rh9_ h9=> ?_) (hle:=by rw [hg2];exact Int.not_lt.1 hge))
  have hv:=h9
  refine ⟨xaidxK (n:=4) (e:=30) (K:=72) (by kernel_rfl) (fun w=>by kernel_rfl) x1 0 .u8 t (by omega) (by omega),xaidxK (n:=18) (e:=29) (K:=4) (by kernel_rfl) (fun w=>by kernel_rfl) x1 (0+Int.toNat t*72) .u8 p (by omega) (by omega),opQ_mk (xtput (m:=72) 4 ((0+Int.toNat t*18)+Int.toNat p*1) (fun w=>by kernel_rfl) x1 33 (by assumption) [x8] (R4s1 (by assumption)) ((0+Int.toNat t*72)+Int.toNat p*4) (by omega) rfl (by simp only [List.length_cons,List.length_nil];omega)) (⟨_,rfl⟩) fun x9 h10=> ?_⟩
  replace h10:=etput (m:=72) (n:=((0+Int.toNat t*18)+Int.toNat p*1)) (ys:= [x8]) (by assumption) (R4s1 (by assumption)) (by omega) h10
  have th10:okT 72 x9:=by rw [h10];exact okT.tset (by assumption) (R4s1 (by assumption)) (by simp only [List.length_cons,List.length_nil];omega)
  have hy:=h10
  refine ⟨xaidxK (n:=4) (e:=30) (K:=72) (by kernel_rfl) (fun w=>by kernel_rfl) x1 0 .u8 t (by omega) (by omega),xaidxK (n:=18) (e:=29) (K:=4) (by kernel_rfl) (fun w=>by kernel_rfl) x1 (0+Int.toNat t*72) .u8 q (by omega) (by omega),opQr_mk (xtget (m:=72) ((0+Int.toNat t*18)+Int.toNat q*1) (fun w=>by kernel_rfl) (fun w=>by kernel_rfl) x1 33 (by assumption) ((0+Int.toNat t*72)+Int.toNat q*4) (by omega) (by omega)) (wtget (m:=72) (by assumption) _) fun x10 h11=> ?_⟩
  have rh11:=h11.1
  replace h11:=etget (m:=72) (n:=((0+Int.toNat t*18)+Int.toNat q*1)) (by assumption) (by omega) h11
  have hg3:=h11
  refine rdQ_mk 4 _ (ref13_add_m x10 n (fun x11 rh12_ h12=> ?_))
  have hu:=h12
  refine ⟨xaidxK (n:=4) (e:=30) (K:=72) (by kernel_rfl) (fun w=>by kernel_rfl) x1 0 .u8 t (by omega) (by omega),xaidxK (n:=18) (e:=29) (K:=4) (by kernel_rfl) (fun w=>by kernel_rfl) x1 (0+Int.toNat t*72) .u8 q (by omega) (by omega),opQ_mk (xtput (m:=72) 4 ((0+Int.toNat t*18)+Int.toNat q*1) (fun w=>by kernel_rfl) x1 33 (by assumption) [x11] (R4s1 (by assumption)) ((0+Int.toNat t*72)+Int.toNat q*4) (by omega) rfl (by simp only [List.length_cons,List.length_nil];omega)) (⟨_,rfl⟩) fun x12 h13=> ?_⟩
  replace h13:=etput (m:=72) (n:=((0+Int.toNat t*18)+Int.toNat q*1)) (ys:= [x11]) (by assumption) (R4s1 (by assumption)) (by omega) h13
  have th13:okT 72 x12:=by rw [h13];exact okT.tset (by assumption) (R4s1 (by assumption)) (by simp only [List.length_cons,List.length_nil];omega)
  have hz2:=h13
  exact opQr_mk (xtall (m:=72) 288 (fun w=>by kernel_rfl) (fun w=>by kernel_rfl) rfl x1 33 (show okT 72 x12 from (by assumption)).1) (⟨(),trivial⟩) fun _ _=>opQ_mk (xtputall (m:=72) 288 (fun w=>by kernel_rfl) x3 33 (show okT 72 (List.replicate 72 0) from (okT_zero 72)).1 (show okT 72 x12 from (by assumption)).1 rfl) (⟨(),trivial⟩) fun _ _=>⟨tab_load (m:=72) 288 (fun w=>by kernel_rfl) (fun w=>by kernel_rfl) rfl (show okT 72 x12 by first | assumption | exact okT_zero _).1,⟨(x12,0),⟨by assumption,by rw [utn_tnV r_xs,num_vI r_n];exact (rMove_ok hw hge (hv.trans (by rw [hg2];rfl)) hy (hu.trans (by rw [hg3];rfl)) hz2).symm⟩,rfl,trivial⟩⟩
abbrev ref13_Move_K (xs:List Int) (t p q n:Int) (KK:(List Int×Int)->Prop):Prop:=ref13_Move_A xs t p q n (fun za zh zv zu zp=>callQr Tryz.prog 33 za zh (List Int×Int) zv zp KK)
theorem ref13_Move_m (xs:List Int) (t p q n:Int) {KK:(List Int×Int)->Prop} (kont: ∀zx:List Int×Int,okT 72 zx.1->(zx=rMove xs t p q n)->KK zx) (r_xs:okT 72 xs:=by assumption) (r_n:R4 n:=by assumption) (wt:(Lit.int .u8 t).wf=true:=by first | assumption | decide) (wp:(Lit.int .u8 p).wf=true:=by first | assumption | decide) (wq:(Lit.int .u8 q).wf=true:=by first | assumption | decide):ref13_Move_K xs t p q n KK:=callQr_mk (ref13_Move xs t p q n r_xs r_n wt wp wq) (⟨_,rMove_R (by first | assumption | exact okT_zero72 | (rw [utn_tnV (n:=72) (by assumption)];assumption)) (by first | exact R4_num _ | exact r_n) (wf8' (by first | assumption | decide)).1 (wf8' (by first | assumption | decide)).1 (wf8' (by first | assumption | decide)).1,rfl⟩) fun zx hz=>by
  obtain ⟨rhz_1,hz⟩:=hz
  try simp only [utn_tnV (xs:=xs) r_xs,num_vI (n:=n) r_n] at hz
  exact kont zx rhz_1 hz
noncomputable def ref04_Num8_C:List Value->List Slot->Ctr:=fun vs hs=>⟨Unit,fun _=> .string (strL (dg8 (ci (varg vs 1)))),fun _=>hs,fun _=>True⟩
abbrev ref04_Num8_Q (x:Int) (zv:Value) :Prop:= ∃_:Unit,(True)/\zv= .string (strL (dg8 x))/\True
abbrev ref04_Num8_A (x:Int) (zF:SF Unit):Prop:=zF #[uu x, .int .i64 8] [] (fun _=> .string (strL (dg8 x))) (fun _=> []) (fun _=>True)
end Go.Proofs
