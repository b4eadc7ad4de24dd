/- Contracts of this program's functions, and their proofs, printed by a program of the prover's own (see the claim's other texts for what the words mean). -/
import Derived.Test.YtmepmbekkbhecaaF2
import Derived.Test.YtmepmbekkbhecaaF3
import Derived.Test.YtmepmbekkbhecaaF1
import Derived.Test.YtmepmbekkbhecaaProg
set_option linter.unusedVariables false
set_option linter.unusedSimpArgs false
namespace Go.Proofs
open Go.Sx
theorem Try.mixed:Try.prog.follows .mixedOrders=true:=by kernel_rfl
def Try.jk:JK:=⟨30,1⟩
theorem Try.sl28:SlT Try.prog 28 1 .nilFunc:=SlT.of (by kernel_rfl) (by kernel_rfl) (by kernel_rfl) (by kernel_rfl) rfl
abbrev stage_Mark_raw_Q (bj:Nat) (row:Rw) (zv:Value) (zs0:Slot) (zs1:Slot):Prop:= ∃_:Unit,(True)/\zv= .int .i64 ((vlen (sv row):Nat):Int)/\zs0=bk bj #[sv row] 30/\zs1=(ss 1 row)/\True
set_option maxRecDepth 100000 in
theorem stage_Mark_raw_vc (bj:Nat) (row:Rw):codeW Try.prog 8 none 2000 none (bodyOf Try.f20) (.reg [S0] (.reg [S0,S0,S0, .sem [.rd 0], .eq (f_len),S0] (.done)))
    (init #[pp bj 0] [bk bj #[sv row] 30,(ss 1 row)]) (finW Try.prog Try.f20 [] [0,1] (X:=Unit) (fun _=> .int .i64 ((vlen (sv row):Nat):Int)) (fun _=> [bk bj #[sv row] 30,(ss 1 row)]) (fun _=>True))=
    (rdQ 1 bj ((PureRun Try.prog (vS (Builtin.len_ #[28] 3 #[sv row])) (.int .i64 ((vlen (sv row):Nat):Int)))/\stage_Mark_raw_Q bj row (Value.int .i64 ((vlen (sv row):Nat):Int)) (bk bj #[sv row] 30) (ss 1 row))):=by kernel_rfl
set_option maxRecDepth 100000 in
theorem stage_Mark_raw (bj:Nat) (row:Rw) :CallT Try.prog 20 #[pp bj 0] [bk bj #[sv row] 30,(ss 1 row)] Unit (fun _=> .int .i64 ((vlen (sv row):Nat):Int)) (fun _=> [bk bj #[sv row] 30,(ss 1 row)]) (fun _=>True):=by
  refine call_of (c:=bodyOf Try.f20) (n:=8) (fn:=Try.f20) Try.mixed Try.func20 (by kernel_rfl) (by kernel_rfl) (by kernel_rfl) 2000 _ [] [0,1] rfl rfl (Eq.mpr (stage_Mark_raw_vc bj row) ?_)
  exact rdQ_mk 1 _ ⟨xlen Try.sl28 3 row,⟨(),trivial,rfl,rfl,rfl,trivial⟩⟩
def stage_Mark_C:List Value->List Slot->Ctr:=fun vs hs=>⟨Int,fun zx=> .int .i64 zx,fun _=>hs,fun zx=>zx=((((sents (sarg hs 0)):List Ent).length:Nat):Int)⟩
theorem stage_Mark (bj:Nat) (L:List Ent) :CallT Try.prog 20 #[.pointer (some ⟨bj,0,none⟩)] [(jS Try.jk bj L)] Int (fun zx=> .int .i64 zx) (fun zx=> [(jS Try.jk bj L)]) (fun zx=>(zx=(((L:List Ent).length:Nat):Int))):=by
  refine jS_read (enterOK (c:=bodyOf Try.f20) Try.func20 (by kernel_rfl) (by kernel_rfl)) fun row _ hl=> ?_
  exact (stage_Mark_raw bj row).exists fun _ _=>⟨_,rfl,by rw [vlen_sv,hl],Imp.refl _⟩
abbrev stage_Keep_raw_Q (bj:Nat) (row:Rw) (zv:Value) (zs0:Slot):Prop:= ∃_:Unit,(True)/\zv= .tuple #[]/\zs0=bk bj #[.slice none 0 0] 30/\True
set_option maxRecDepth 100000 in
theorem stage_Keep_raw_vc (bj:Nat) (row:Rw):codeW Try.prog 5 none 2000 none (bodyOf Try.f19) (.reg [S0,S0,S0, .sem [.wr 0]] (.done))
    (init #[pp bj 0] [bk bj #[sv row] 30]) (finW Try.prog Try.f19 [] [0] (X:=Unit) (fun _=> .tuple #[]) (fun _=> [bk bj #[.slice none 0 0] 30]) (fun _=>True))=
    (rdQ 1 bj (stage_Keep_raw_Q bj row (Value.tuple #[]) (bk bj #[.slice none 0 0] 30))):=by kernel_rfl
set_option maxRecDepth 100000 in
theorem stage_Keep_raw (bj:Nat) (row:Rw) :CallT Try.prog 19 #[pp bj 0] [bk bj #[sv row] 30] Unit (fun _=> .tuple #[]) (fun _=> [bk bj #[.slice none 0 0] 30]) (fun _=>True):=by
  refine call_of (c:=bodyOf Try.f19) (n:=5) (fn:=Try.f19) Try.mixed Try.func19 (by kernel_rfl) (by kernel_rfl) (by kernel_rfl) 2000 _ [] [0] rfl rfl (Eq.mpr (stage_Keep_raw_vc bj row) ?_)
  exact rdQ_mk 1 _ ⟨(),trivial,rfl,rfl,trivial⟩
theorem stage_Keep (bj:Nat) (L:List Ent) :CallT Try.prog 19 #[.pointer (some ⟨bj,0,none⟩)] [(jS Try.jk bj L)] Unit (fun _=> .tuple #[]) (fun _=> [(jS Try.jk bj ([]))]) (fun _=>True):=jS_keep (enterOK (c:=bodyOf Try.f19) Try.func19 (by kernel_rfl) (by kernel_rfl)) fun row=>stage_Keep_raw bj row
noncomputable def Try.ent75 (b:Nat) (m:KV) (key:Value):Ent:=⟨48,b,key,mget m key, .int .i64 0,4,3,37,3⟩
def Try.mk75:MK:=⟨75,Value.func (.func 13) #[] #[],fun v=> ∃n:Int,v= .int .i64 n,fun x=> ∃v,(fun n=>(Lit.int .i64 n).wf=true) v/\x=(Value.int .i64) v⟩
theorem Try.kl75:KindL Try.prog Try.mk75 73 3 3 (.int .i64 0) (V:=Int) (Value.int .i64) (fun n=>(Lit.int .i64 n).wf=true):=⟨⟨by kernel_rfl,kl_int (by kernel_rfl),fun w=>by kernel_rfl⟩,fun _=>Iff.rfl,⟨0,rfl,rfl⟩⟩
abbrev stage_New_raw75_Q (bj:Nat) (zv:Value) (zs0:Slot) (zs1:Slot):Prop:= ∃zx:Nat×Nat,(True)/\zv=pp zx.1 0/\zs0= .blk zx.1 (.cells #[.map (some zx.2),pp bj 0, .func (.func 13) #[] #[]] 75 (0,0))/\zs1= .blk zx.2 (.map #[] 0)/\True
set_option maxRecDepth 100000 in
theorem stage_New_raw75_vc (bj:Nat):codeW Try.prog 10 none 2000 none (bodyOf Try.f12) (.reg [S0] (.reg [.sem [.nw 21],S0,S0,S0, .sem [.nw 20],S0] (.done)))
    (init #[pp bj 0, .func (.func 13) #[] #[]] []) (finW Try.prog Try.f12 [] [20,21] (X:=Nat×Nat) (fun zx=>pp zx.1 0) (fun zx=> [.blk zx.1 (.cells #[.map (some zx.2),pp bj 0, .func (.func 13) #[] #[]] 75 (0,0)), .blk zx.2 (.map #[] 0)]) (fun _=>True))=
    (∀b1:Nat,∀b2:Nat,stage_New_raw75_Q bj (pp b2 0) (Slot.blk b2 (.cells #[.map (some b1),pp bj 0, .func (.func 13) #[] #[]] 75 (0,0))) (Slot.blk b1 (.map #[] 0))):=by kernel_rfl
set_option maxRecDepth 100000 in
theorem stage_New_raw75 (bj:Nat) :CallT Try.prog 12 #[pp bj 0, .func (.func 13) #[] #[]] [] (Nat×Nat) (fun zx=>pp zx.1 0) (fun zx=> [.blk zx.1 (.cells #[.map (some zx.2),pp bj 0, .func (.func 13) #[] #[]] 75 (0,0)), .blk zx.2 (.map #[] 0)]) (fun _=>True):=by
  refine call_of (c:=bodyOf Try.f12) (n:=10) (fn:=Try.f12) Try.mixed Try.func12 (by kernel_rfl) (by kernel_rfl) (by kernel_rfl) 2000 _ [] [20,21] rfl rfl (Eq.mpr (stage_New_raw75_vc bj) ?_)
  intro b1
  intro b2
  exact ⟨(b2,b1),trivial,rfl,rfl,rfl,trivial⟩
def stage_New75_C:List Value->List Slot->Ctr:=fun vs hs=>⟨Nat,fun zx=>pp zx 0,fun zx=> [(mS Try.mk75 zx (vblk (varg vs 1)) ([]))],fun zx=>True⟩
theorem stage_New75 (bj:Nat) :CallT Try.prog 12 #[.pointer (some ⟨bj,0,none⟩), .func (.func 13) #[] #[]] [] Nat (fun zx=> .pointer (some ⟨zx,0,none⟩)) (fun zx=> [(mS Try.mk75 zx bj ([]))]) (fun zx=>(True)):=(stage_New_raw75 bj).exists fun x _=>⟨x.1,trivial,rfl,new_fold (K:=Try.mk75) x.1 x.2 bj⟩
abbrev stage_Get_raw75_Q (b bj r:Nat) (m:KV) (k:Int) (zv:Value) (zs0:Slot) (zs1:Slot):Prop:= ∃zx:Int×Bool,(zx.1=ci ((mget m (Value.int .i64 k)).getD (.int .i64 0))/\zx.2=(mget m (Value.int .i64 k)).isSome)/\zv= .tuple #[.int .i64 zx.1, .bool zx.2]/\zs0= .blk b (.cells #[.map (some r),pp bj 0, .func (.func 13) #[] #[]] 75 (0,0))/\zs1=(mo r m)/\True
set_option maxRecDepth 100000 in
theorem stage_Get_raw75_vc (b bj r:Nat) (m:KV) (k:Int):codeW Try.prog 19 none 2000 none (bodyOf Try.f22) (.reg [S0,S0] (.reg [S0,S0,S0, .sem [.rd 0],S0, .specr [1] (F_look (V:=Int) (Value.int .i64) (fun n=>(Lit.int .i64 n).wf=true) (.int .i64 0)),S0,S0,S0,S0,S0] (.reg [S0,S0,S0,S0] (.done))))
    (init #[pp b 0, .int .i64 k] [.blk b (.cells #[.map (some r),pp bj 0, .func (.func 13) #[] #[]] 75 (0,0)),(mo r m)]) (finW Try.prog Try.f22 [] [0,1] (X:=Int×Bool) (fun zx=> .tuple #[.int .i64 zx.1, .bool zx.2]) (fun zx=> [.blk b (.cells #[.map (some r),pp bj 0, .func (.func 13) #[] #[]] 75 (0,0)),(mo r m)]) (fun zx=>(zx.1=ci ((mget m (Value.int .i64 k)).getD (.int .i64 0))/\zx.2=(mget m (Value.int .i64 k)).isSome)))=
    (rdQ 1 b (opQr Try.prog (vS (Instr.lookup 73 (.map (some r)) (.int .i64 k) true)) [(mo r m)] (Int×Bool) (fun zx=> .tuple #[.int .i64 zx.1, .bool zx.2]) (fun zx=>(fun n=>(Lit.int .i64 n).wf=true) zx.1/\zx.2=(mget m (Value.int .i64 k)).isSome/\(Value.int .i64) zx.1=(mget m (Value.int .i64 k)).getD (.int .i64 0)) (fun x1=>stage_Get_raw75_Q b bj r m k (Value.tuple #[.int .i64 x1.1, .bool x1.2]) (Slot.blk b (.cells #[.map (some r),pp bj 0, .func (.func 13) #[] #[]] 75 (0,0))) (mo r m)))):=by kernel_rfl
set_option maxRecDepth 100000 in
theorem stage_Get_raw75 (b bj r:Nat) (m:KV) (k:Int) (hk:KOK Try.mk75 m):CallT Try.prog 22 #[pp b 0, .int .i64 k] [.blk b (.cells #[.map (some r),pp bj 0, .func (.func 13) #[] #[]] 75 (0,0)),(mo r m)] (Int×Bool) (fun zx=> .tuple #[.int .i64 zx.1, .bool zx.2]) (fun zx=> [.blk b (.cells #[.map (some r),pp bj 0, .func (.func 13) #[] #[]] 75 (0,0)),(mo r m)]) (fun zx=>(zx.1=ci ((mget m (Value.int .i64 k)).getD (.int .i64 0))/\zx.2=(mget m (Value.int .i64 k)).isSome)):=by
  refine call_of (c:=bodyOf Try.f22) (n:=19) (fn:=Try.f22) Try.mixed Try.func22 (by kernel_rfl) (by kernel_rfl) (by kernel_rfl) 2000 _ [] [0,1] rfl rfl (Eq.mpr (stage_Get_raw75_vc b bj r m k) ?_)
  refine rdQ_mk 1 _ (opQr_mk (xlook Try.kl75 hk ⟨_,rfl⟩) (wlook Try.kl75 hk _) fun x1 h1=> ?_)
  have hx:=h1
  exact ⟨_,⟨by rw [←hx.2.2];rfl,hx.2.1⟩,rfl,rfl,rfl,trivial⟩
def stage_Get75_C:List Value->List Slot->Ctr:=fun vs hs=>⟨Int×Bool,fun zx=> .tuple #[.int .i64 zx.1, .bool zx.2],fun _=>hs,fun zx=>zx.1=ci ((mget (skv (sarg hs 0)) (varg vs 2)).getD (.int .i64 0))/\zx.2=(mget (skv (sarg hs 0)) (varg vs 2)).isSome⟩
theorem stage_Get75 (b bj:Nat) (m:KV) (k:Int) :CallT Try.prog 22 #[.pointer (some ⟨b,0,none⟩), .int .i64 k] [(mS Try.mk75 b bj m)] (Int×Bool) (fun zx=> .tuple #[.int .i64 zx.1, .bool zx.2]) (fun zx=> [(mS Try.mk75 b bj m)]) (fun zx=>(zx.1=ci ((mget m (Value.int .i64 k)).getD (.int .i64 0))/\zx.2=(mget m (Value.int .i64 k)).isSome)):=by
  refine (mS_call (m' :=fun _=>m) (us:=fun _=> []) (enterOK (c:=bodyOf Try.f22) Try.func22 (by kernel_rfl) (by kernel_rfl)) (fun r hk=> ?_) (fun _ _ h=>h))
  exact stage_Get_raw75 b bj r m k hk
abbrev stage_note_raw75_Q (b bj r:Nat) (row:Rw) (m:KV) (k:Int) (zv:Value) (zs0:Slot) (zs1:Slot) (zs2:Slot) (zs3:Slot) (zs4:Slot) (zs5:Slot) (zs6:Slot) (zs7:Slot):Prop:= ∃zx:Row×N4×Int×Bool,(vals zx.1=vals row++ [(Try.ent75 b m (Value.int .i64 k)).fn zx.2.1]/\zx.2.2.2=(mget m (Value.int .i64 k)).isSome/\(Value.int .i64) zx.2.2.1=(mget m (Value.int .i64 k)).getD (.int .i64 0))/\zv= .tuple #[]/\zs0= .blk b (.cells #[.map (some r),pp bj 0, .func (.func 13) #[] #[]] 75 (0,0))/\zs1=(mo r m)/\zs2=bk bj #[sv zx.1] 30/\zs3=(ss 1 zx.1)/\zs4=bk zx.2.1.1 #[.bool zx.2.2.2] 4/\zs5=bk zx.2.1.2.1 #[.int .i64 zx.2.2.1] 3/\zs6=bk zx.2.1.2.2.1 #[pp b 0] 37/\zs7=bk zx.2.1.2.2.2 #[.int .i64 k] 3/\True
set_option maxRecDepth 100000 in
theorem stage_note_raw75_vc (b bj r:Nat) (row:Rw) (m:KV) (k:Int):codeW Try.prog 31 none 2000 none (bodyOf Try.f33) (.reg [.sem [.nw 32], .sem [.nw 33]] (.reg [.sem [.rd 32],S0,S0, .sem [.rd 0], .sem [.rd 33], .specr [1] (F_look (V:=Int) (Value.int .i64) (fun n=>(Lit.int .i64 n).wf=true) (.int .i64 0)),S0,S0,S0, .sem [.nw 31], .sem [.nw 30], .sem [.wr 31], .sem [.wr 30]] (.reg [.sem [.rd 32],S0,S0, .sem [.rd 0], .sem [.rd 32],S0,S0, .sem [.rd 0],S0,S0, .sem [.rd 2],S0, .sem [.nw 4], .specw [3,4] [3,4] (F_app 1),S0,S0, .specw [2] [2] F_put] (.done))))
    (init #[pp b 0, .int .i64 k] [.blk b (.cells #[.map (some r),pp bj 0, .func (.func 13) #[] #[]] 75 (0,0)),(mo r m),bk bj #[sv row] 30,(ss 1 row)]) (finW Try.prog Try.f33 [] [0,1,2,3,30,31,32,33] (X:=Row×N4×Int×Bool) (fun zx=> .tuple #[]) (fun zx=> [.blk b (.cells #[.map (some r),pp bj 0, .func (.func 13) #[] #[]] 75 (0,0)),(mo r m),bk bj #[sv zx.1] 30,(ss 1 zx.1),bk zx.2.1.1 #[.bool zx.2.2.2] 4,bk zx.2.1.2.1 #[.int .i64 zx.2.2.1] 3,bk zx.2.1.2.2.1 #[pp b 0] 37,bk zx.2.1.2.2.2 #[.int .i64 k] 3]) (fun zx=>(vals zx.1=vals row++ [(Try.ent75 b m (Value.int .i64 k)).fn zx.2.1]/\zx.2.2.2=(mget m (Value.int .i64 k)).isSome/\(Value.int .i64) zx.2.2.1=(mget m (Value.int .i64 k)).getD (.int .i64 0))))=
    (∀b1:Nat,∀b2:Nat,rdQ 1 b1 (rdQ 1 b (rdQ 1 b2 (opQr Try.prog (vS (Instr.lookup 73 (.map (some r)) (.int .i64 k) true)) [(mo r m)] (Int×Bool) (fun zx=> .tuple #[.int .i64 zx.1, .bool zx.2]) (fun zx=>(fun n=>(Lit.int .i64 n).wf=true) zx.1/\zx.2=(mget m (Value.int .i64 k)).isSome/\(Value.int .i64) zx.1=(mget m (Value.int .i64 k)).getD (.int .i64 0)) (fun x3=> ∀b4:Nat,∀b5:Nat,rdQ 1 b4 (rdQ 1 b5 (rdQ 1 b1 (rdQ 1 b (rdQ 1 b1 (rdQ 1 b (rdQ 1 bj (∀b6:Nat,opQ Try.prog (vS (Builtin.append_ #[28,28] 28 #[sv row, .slice (some ⟨b6,0,none⟩) 1 1])) [(ss 1 row), .blk b6 (.cells #[.func (.func 48) #[] #[pp b5 0,pp b4 0,pp b1 0,pp b2 0]] 1 (0,0))] Row (fun zx=>sv zx) (fun zx=> [(ss 1 zx), .blk b6 (.cells #[.func (.func 48) #[] #[pp b5 0,pp b4 0,pp b1 0,pp b2 0]] 1 (0,0))]) (fun zx=>vals zx=rvals (sv row) (ss 1 row)++ [Value.func (.func 48) #[] #[pp b5 0,pp b4 0,pp b1 0,pp b2 0]]) (fun x7=>opQ Try.prog (skS (Instr.storeAt 28 (pp bj 0) (sv x7))) [bk bj #[sv row] 30] Unit (fun _=> .tuple #[]) (fun _=> [bk bj #[sv x7] 30]) (fun _=>True) (fun _=>stage_note_raw75_Q b bj r row m k (Value.tuple #[]) (Slot.blk b (.cells #[.map (some r),pp bj 0, .func (.func 13) #[] #[]] 75 (0,0))) (mo r m) (bk bj #[sv x7] 30) (ss 1 x7) (bk b5 #[.bool x3.2] 4) (bk b4 #[.int .i64 x3.1] 3) (bk b1 #[pp b 0] 37) (bk b2 #[.int .i64 k] 3))))))))))))))):=by kernel_rfl
set_option maxRecDepth 100000 in
theorem stage_note_raw75 (b bj r:Nat) (row:Rw) (m:KV) (k:Int) (hk:KOK Try.mk75 m) (hl:(vals row).length<=1073741824):CallT Try.prog 33 #[pp b 0, .int .i64 k] [.blk b (.cells #[.map (some r),pp bj 0, .func (.func 13) #[] #[]] 75 (0,0)),(mo r m),bk bj #[sv row] 30,(ss 1 row)] (Row×N4×Int×Bool) (fun zx=> .tuple #[]) (fun zx=> [.blk b (.cells #[.map (some r),pp bj 0, .func (.func 13) #[] #[]] 75 (0,0)),(mo r m),bk bj #[sv zx.1] 30,(ss 1 zx.1),bk zx.2.1.1 #[.bool zx.2.2.2] 4,bk zx.2.1.2.1 #[.int .i64 zx.2.2.1] 3,bk zx.2.1.2.2.1 #[pp b 0] 37,bk zx.2.1.2.2.2 #[.int .i64 k] 3]) (fun zx=>(vals zx.1=vals row++ [(Try.ent75 b m (Value.int .i64 k)).fn zx.2.1]/\zx.2.2.2=(mget m (Value.int .i64 k)).isSome/\(Value.int .i64) zx.2.2.1=(mget m (Value.int .i64 k)).getD (.int .i64 0))):=by
  refine call_of (c:=bodyOf Try.f33) (n:=31) (fn:=Try.f33) Try.mixed Try.func33 (by kernel_rfl) (by kernel_rfl) (by kernel_rfl) 2000 _ [] [0,1,2,3,30,31,32,33] rfl rfl (Eq.mpr (stage_note_raw75_vc b bj r row m k) ?_)
  intro b1
  intro b2
  refine rdQ_mk 1 _ (rdQ_mk 1 _ (rdQ_mk 1 _ (opQr_mk (xlook Try.kl75 hk ⟨_,rfl⟩) (wlook Try.kl75 hk _) fun x3 h1=> ?_)))
  have hx:=h1
  intro b4
  intro b5
  refine rdQ_mk 1 _ (rdQ_mk 1 _ (rdQ_mk 1 _ (rdQ_mk 1 _ (rdQ_mk 1 _ (rdQ_mk 1 _ (rdQ_mk 1 _ (fun b6=>opQ_mk (xappendR Try.sl28 28 row (by rw [dg_len];omega) b6 1 (Value.func (.func 48) #[] #[pp b5 0,pp b4 0,pp b1 0,pp b2 0]) rfl) (wit_app _) fun x7 h2=> ?_)))))))
  rw [rvals_eq] at h2
  have ha:=h2
  exact opQ_mk (xputv (b:=bj) (cs:= #[sv row]) (ty:=30) (te:=28) (fun w=>by kernel_rfl) 0 (sv x7) (cells_sv _) (one_sv _) (by show 0<1;decide)) (⟨(),trivial⟩) fun _ _=>⟨(x7,(b5,b4,b1,b2),x3),⟨ha,hx.2.1,hx.2.2⟩,rfl,rfl,rfl,rfl,rfl,rfl,rfl,rfl,rfl,trivial⟩
def stage_note75_C:List Value->List Slot->Ctr:=fun vs hs=>⟨List Ent,fun zx=> .tuple #[],fun zx=> [.blk (vblk (varg vs 1)) (.cells #[.map (some (snum (sarg hs 1) 0)), .pointer (some ⟨(vblk (scell (sarg hs 0) 1)),0,none⟩), .func (.func 13) #[] #[]] 75 (0,0)),(mo (snum (sarg hs 1) 0) (skv (sarg hs 1))),(jS Try.jk (vblk (scell (sarg hs 0) 1)) zx)],fun zx=>zx=(sents (sarg hs 2))++ [(Try.ent75 (vblk (varg vs 1)) (skv (sarg hs 1)) (varg vs 2))]⟩
theorem stage_note75 (b bj r:Nat) (m:KV) (L:List Ent) (k:Int) (hk:KOK Try.mk75 m) (hl:L.length<=1073741824):CallT Try.prog 33 #[.pointer (some ⟨b,0,none⟩), .int .i64 k] [.blk b (.cells #[.map (some r), .pointer (some ⟨bj,0,none⟩), .func (.func 13) #[] #[]] 75 (0,0)),(mo r m),(jS Try.jk bj L)] (List Ent) (fun zx=> .tuple #[]) (fun zx=> [.blk b (.cells #[.map (some r), .pointer (some ⟨bj,0,none⟩), .func (.func 13) #[] #[]] 75 (0,0)),(mo r m),(jS Try.jk bj zx)]) (fun zx=>(zx=L++ [(Try.ent75 b m (Value.int .i64 k))])):=by
  have c:=jS_note (K:=Try.jk) (bj:=bj) (L:=L) (vv:=Value.int .i64) (e:=(Try.ent75 b m (Value.int .i64 k))) (mk:=fun _=>default_ent) (enterOK (c:=bodyOf Try.f33) Try.func33 (by kernel_rfl) (by kernel_rfl)) rfl (fun row hr=>stage_note_raw75 b bj r row m k hk (by omega))
  exact c.exists fun _ _=>⟨_,rfl,rfl,Imp.refl _⟩
abbrev stage_Set_raw75_Q (b bj r:Nat) (m:KV) (L:List Ent) (k v:Int) (zv:Value) (zs0:Slot) (zs1:Slot) (zs2:Slot):Prop:= ∃zx:KV×List Ent,(zx.1=mset m (Value.int .i64 k) (Value.int .i64 v)/\zx.2=L++ [(Try.ent75 b m (Value.int .i64 k))])/\zv= .tuple #[]/\zs0= .blk b (.cells #[.map (some r),pp bj 0, .func (.func 13) #[] #[]] 75 (0,0))/\zs1=(mo r zx.1)/\zs2=(jS Try.jk bj zx.2)/\True
set_option maxRecDepth 100000 in
theorem stage_Set_raw75_vc (b bj r:Nat) (m:KV) (L:List Ent) (k v:Int):codeW Try.prog 15 none 2000 none (bodyOf Try.f15) (.reg [S0,S0, .callw [0,1,2] [0,1,2] stage_note75_C] (.reg [S0,S0,S0, .sem [.rd 0],S0,S0, .specw [1] [1] F_upd] (.done)))
    (init #[pp b 0, .int .i64 k, .int .i64 v] [.blk b (.cells #[.map (some r),pp bj 0, .func (.func 13) #[] #[]] 75 (0,0)),(mo r m),(jS Try.jk bj L)]) (finW Try.prog Try.f15 [] [0,1,2] (X:=KV×List Ent) (fun zx=> .tuple #[]) (fun zx=> [.blk b (.cells #[.map (some r),pp bj 0, .func (.func 13) #[] #[]] 75 (0,0)),(mo r zx.1),(jS Try.jk bj zx.2)]) (fun zx=>(zx.1=mset m (Value.int .i64 k) (Value.int .i64 v)/\zx.2=L++ [(Try.ent75 b m (Value.int .i64 k))])))=
    (callQ Try.prog 33 #[pp b 0, .int .i64 k] [.blk b (.cells #[.map (some r),pp bj 0, .func (.func 13) #[] #[]] 75 (0,0)),(mo r m),(jS Try.jk bj L)] (List Ent) (fun zx=> .tuple #[]) (fun zx=> [.blk b (.cells #[.map (some r),pp bj 0, .func (.func 13) #[] #[]] 75 (0,0)),(mo r m),(jS Try.jk bj zx)]) (fun zx=>zx=L++ [(Try.ent75 b m (Value.int .i64 k))]) (fun x1=>rdQ 1 b (opQ Try.prog (skS (Instr.mapUpdate 73 (.map (some r)) (.int .i64 k) (.int .i64 v))) [(mo r m)] KV (fun zx=> .tuple #[]) (fun zx=> [(mo r zx)]) (fun zx=>zx=mset m (Value.int .i64 k) (Value.int .i64 v)) (fun x2=>stage_Set_raw75_Q b bj r m L k v (Value.tuple #[]) (Slot.blk b (.cells #[.map (some r),pp bj 0, .func (.func 13) #[] #[]] 75 (0,0))) (mo r x2) (jS Try.jk bj x1))))):=by kernel_rfl
set_option maxRecDepth 100000 in
theorem stage_Set_raw75 (b bj r:Nat) (m:KV) (L:List Ent) (k v:Int) (hk:KOK Try.mk75 m) (hl:L.length<=1073741824):CallT Try.prog 15 #[pp b 0, .int .i64 k, .int .i64 v] [.blk b (.cells #[.map (some r),pp bj 0, .func (.func 13) #[] #[]] 75 (0,0)),(mo r m),(jS Try.jk bj L)] (KV×List Ent) (fun zx=> .tuple #[]) (fun zx=> [.blk b (.cells #[.map (some r),pp bj 0, .func (.func 13) #[] #[]] 75 (0,0)),(mo r zx.1),(jS Try.jk bj zx.2)]) (fun zx=>(zx.1=mset m (Value.int .i64 k) (Value.int .i64 v)/\zx.2=L++ [(Try.ent75 b m (Value.int .i64 k))])):=by
  refine call_of (c:=bodyOf Try.f15) (n:=15) (fn:=Try.f15) Try.mixed Try.func15 (by kernel_rfl) (by kernel_rfl) (by kernel_rfl) 2000 _ [] [0,1,2] rfl rfl (Eq.mpr (stage_Set_raw75_vc b bj r m L k v) ?_)
  refine callQ_mk (stage_note75 b bj r m L k (hk) (hl)) (⟨_,rfl⟩) fun x1 h1=> ?_
  have hn:=h1
  refine rdQ_mk 1 _ (opQ_mk (xupd Try.kl75 hk ⟨_,rfl⟩ (Value.int .i64 v)) (⟨_,rfl⟩) fun x2 h2=> ?_)
  have hs:=h2
  exact ⟨(_,_),⟨hs,hn⟩,rfl,rfl,rfl,rfl,trivial⟩
def stage_Set75_C:List Value->List Slot->Ctr:=fun vs hs=>⟨KV×List Ent,fun zx=> .tuple #[],fun zx=> [(mS Try.mk75 (vblk (varg vs 1)) (snum (sarg hs 0) 1) zx.1),(jS Try.jk (snum (sarg hs 0) 1) zx.2)],fun zx=>zx.1=mset (skv (sarg hs 0)) (varg vs 2) (varg vs 3)/\zx.2=(sents (sarg hs 1))++ [(Try.ent75 (vblk (varg vs 1)) (skv (sarg hs 0)) (varg vs 2))]⟩
theorem stage_Set75 (b bj:Nat) (m:KV) (L:List Ent) (k v:Int) (hv:(Lit.int .i64 v).wf=true) (hl:L.length<=1073741824):CallT Try.prog 15 #[.pointer (some ⟨b,0,none⟩), .int .i64 k, .int .i64 v] [(mS Try.mk75 b bj m),(jS Try.jk bj L)] (KV×List Ent) (fun zx=> .tuple #[]) (fun zx=> [(mS Try.mk75 b bj zx.1),(jS Try.jk bj zx.2)]) (fun zx=>(zx.1=mset m (Value.int .i64 k) (Value.int .i64 v)/\zx.2=L++ [(Try.ent75 b m (Value.int .i64 k))])):=by
  refine mS_call (m' :=fun x:KV×List Ent=>x.1) (us:=fun x=> [(jS Try.jk bj x.2)]) (enterOK (c:=bodyOf Try.f15) Try.func15 (by kernel_rfl) (by kernel_rfl)) (fun r hk=> ?_) (fun x hx h=> ?_)
  · exact (stage_Set_raw75 b bj r m L k v hk hl)
  · exact hx.1▸h.set (⟨_,rfl⟩) (⟨_,hv,rfl⟩)
abbrev stage_Drop_raw75_Q (b bj r:Nat) (m:KV) (L:List Ent) (k:Int) (zv:Value) (zs0:Slot) (zs1:Slot) (zs2:Slot):Prop:= ∃zx:KV×List Ent×Bool,(zx.2.2=(mget m (Value.int .i64 k)).isSome/\zx.1=mdel m (Value.int .i64 k)/\zx.2.1=if (mget m (Value.int .i64 k)).isSome then L++ [(Try.ent75 b m (Value.int .i64 k))] else L)/\zv= .bool zx.2.2/\zs0= .blk b (.cells #[.map (some r),pp bj 0, .func (.func 13) #[] #[]] 75 (0,0))/\zs1=(mo r zx.1)/\zs2=(jS Try.jk bj zx.2.1)/\True
set_option maxRecDepth 100000 in
theorem stage_Drop_raw75_vc (b bj r:Nat) (m:KV) (L:List Ent) (k:Int):codeW Try.prog 26 none 2000 none (bodyOf Try.f17) (.reg [S0] (.reg [S0,S0,S0, .sem [.rd 0],S0, .specr [1] (F_look (V:=Int) (Value.int .i64) (fun n=>(Lit.int .i64 n).wf=true) (.int .i64 0)),S0,S0,S0,S0,S0] (.reg [S0] (.cond (.reg [S0,S0, .callw [0,1,2] [0,1,2] stage_note75_C] (.reg [S0,S0,S0, .sem [.rd 0],S0, .specw [1] [1] F_del] (.reg [.gen [] (Sx.one (.bool true)),S0] (.done)))) (.reg [.gen [] (Sx.one (.bool false)),S0] (.done))))))
    (init #[pp b 0, .int .i64 k] [.blk b (.cells #[.map (some r),pp bj 0, .func (.func 13) #[] #[]] 75 (0,0)),(mo r m),(jS Try.jk bj L)]) (finW Try.prog Try.f17 [] [0,1,2] (X:=KV×List Ent×Bool) (fun zx=> .bool zx.2.2) (fun zx=> [.blk b (.cells #[.map (some r),pp bj 0, .func (.func 13) #[] #[]] 75 (0,0)),(mo r zx.1),(jS Try.jk bj zx.2.1)]) (fun zx=>(zx.2.2=(mget m (Value.int .i64 k)).isSome/\zx.1=mdel m (Value.int .i64 k)/\zx.2.1=if (mget m (Value.int .i64 k)).isSome then L++ [(Try.ent75 b m (Value.int .i64 k))] else L)))=
    (rdQ 1 b (opQr Try.prog (vS (Instr.lookup 73 (.map (some r)) (.int .i64 k) true)) [(mo r m)] (Int×Bool) (fun zx=> .tuple #[.int .i64 zx.1, .bool zx.2]) (fun zx=>(fun n=>(Lit.int .i64 n).wf=true) zx.1/\zx.2=(mget m (Value.int .i64 k)).isSome/\(Value.int .i64) zx.1=(mget m (Value.int .i64 k)).getD (.int .i64 0)) (fun x1=>(x1.2=true->callQ Try.prog 33 #[pp b 0, .int .i64 k] [.blk b (.cells #[.map (some r),pp bj 0, .func (.func 13) #[] #[]] 75 (0,0)),(mo r m),(jS Try.jk bj L)] (List Ent) (fun zx=> .tuple #[]) (fun zx=> [.blk b (.cells #[.map (some r),pp bj 0, .func (.func 13) #[] #[]] 75 (0,0)),(mo r m),(jS Try.jk bj zx)]) (fun zx=>zx=L++ [(Try.ent75 b m (Value.int .i64 k))]) (fun x2=>rdQ 1 b (opQ Try.prog (vS (Builtin.delete_ #[73,3] 0 #[.map (some r), .int .i64 k])) [(mo r m)] KV (fun zx=> .tuple #[]) (fun zx=> [(mo r zx)]) (fun zx=>zx=mdel m (Value.int .i64 k)) (fun x3=>(∃_:Unit,True/\Value.bool x1.2= .bool true)/\ ∀_:Unit,(True)->stage_Drop_raw75_Q b bj r m L k (Value.bool true) (Slot.blk b (.cells #[.map (some r),pp bj 0, .func (.func 13) #[] #[]] 75 (0,0))) (mo r x3) (jS Try.jk bj x2)))))/\(x1.2=false->(∃_:Unit,True/\Value.bool x1.2= .bool false)/\ ∀_:Unit,(True)->stage_Drop_raw75_Q b bj r m L k (Value.bool false) (Slot.blk b (.cells #[.map (some r),pp bj 0, .func (.func 13) #[] #[]] 75 (0,0))) (mo r m) (jS Try.jk bj L))))):=by kernel_rfl
set_option maxRecDepth 100000 in
theorem stage_Drop_raw75 (b bj r:Nat) (m:KV) (L:List Ent) (k:Int) (hk:KOK Try.mk75 m) (hl:L.length<=1073741824):CallT Try.prog 17 #[pp b 0, .int .i64 k] [.blk b (.cells #[.map (some r),pp bj 0, .func (.func 13) #[] #[]] 75 (0,0)),(mo r m),(jS Try.jk bj L)] (KV×List Ent×Bool) (fun zx=> .bool zx.2.2) (fun zx=> [.blk b (.cells #[.map (some r),pp bj 0, .func (.func 13) #[] #[]] 75 (0,0)),(mo r zx.1),(jS Try.jk bj zx.2.1)]) (fun zx=>(zx.2.2=(mget m (Value.int .i64 k)).isSome/\zx.1=mdel m (Value.int .i64 k)/\zx.2.1=if (mget m (Value.int .i64 k)).isSome then L++ [(Try.ent75 b m (Value.int .i64 k))] else L)):=by
  refine call_of (c:=bodyOf Try.f17) (n:=26) (fn:=Try.f17) Try.mixed Try.func17 (by kernel_rfl) (by kernel_rfl) (by kernel_rfl) 2000 _ [] [0,1,2] rfl rfl (Eq.mpr (stage_Drop_raw75_vc b bj r m L k) ?_)
  refine rdQ_mk 1 _ (opQr_mk (xlook Try.kl75 hk ⟨_,rfl⟩) (wlook Try.kl75 hk _) fun x1 h1=> ?_)
  have hx:=h1
  refine ⟨fun h2=> ?_,fun h2=> ?_⟩
  · refine callQ_mk (stage_note75 b bj r m L k (hk) (hl)) (⟨_,rfl⟩) fun x2 h3=> ?_
    have hn:=h3
    refine rdQ_mk 1 _ (opQ_mk (xdel Try.kl75 0 3 hk ⟨_,rfl⟩) (⟨_,rfl⟩) fun x3 h4=> ?_)
    have hd:=h4
    refine ⟨⟨(),trivial,congrArg Value.bool h2⟩,fun _=>fun _=> ?_⟩
    have hi:(mget m (Value.int .i64 k)).isSome=true:=by rw [←hx.2.1];assumption
    exact ⟨(_,_,true),⟨hi.symm,hd,by rw [if_pos hi];exact hn⟩,rfl,rfl,rfl,rfl,trivial⟩
  refine ⟨⟨(),trivial,congrArg Value.bool h2⟩,fun _=>fun _=> ?_⟩
  have hi:(mget m (Value.int .i64 k)).isSome=false:=by rw [←hx.2.1];assumption
  exact ⟨(m,L,false),⟨hi.symm,(mdel_none (by simpa using hi)).symm,by rw [if_neg (by rw [hi];decide)]⟩,rfl,rfl,rfl,rfl,trivial⟩
def stage_Drop75_C:List Value->List Slot->Ctr:=fun vs hs=>⟨KV×List Ent×Bool,fun zx=> .bool zx.2.2,fun zx=> [(mS Try.mk75 (vblk (varg vs 1)) (snum (sarg hs 0) 1) zx.1),(jS Try.jk (snum (sarg hs 0) 1) zx.2.1)],fun zx=>zx.2.2=(mget (skv (sarg hs 0)) (varg vs 2)).isSome/\zx.1=mdel (skv (sarg hs 0)) (varg vs 2)/\zx.2.1=if (mget (skv (sarg hs 0)) (varg vs 2)).isSome then (sents (sarg hs 1))++ [(Try.ent75 (vblk (varg vs 1)) (skv (sarg hs 0)) (varg vs 2))] else (sents (sarg hs 1))⟩
theorem stage_Drop75 (b bj:Nat) (m:KV) (L:List Ent) (k:Int) (hl:L.length<=1073741824):CallT Try.prog 17 #[.pointer (some ⟨b,0,none⟩), .int .i64 k] [(mS Try.mk75 b bj m),(jS Try.jk bj L)] (KV×List Ent×Bool) (fun zx=> .bool zx.2.2) (fun zx=> [(mS Try.mk75 b bj zx.1),(jS Try.jk bj zx.2.1)]) (fun zx=>(zx.2.2=(mget m (Value.int .i64 k)).isSome/\zx.1=mdel m (Value.int .i64 k)/\zx.2.1=if (mget m (Value.int .i64 k)).isSome then L++ [(Try.ent75 b m (Value.int .i64 k))] else L)):=by
  refine mS_call (m' :=fun x:KV×List Ent×Bool=>x.1) (us:=fun x=> [(jS Try.jk bj x.2.1)]) (enterOK (c:=bodyOf Try.f17) Try.func17 (by kernel_rfl) (by kernel_rfl)) (fun r hk=> ?_) (fun x hx h=> ?_)
  · exact stage_Drop_raw75 b bj r m L k hk hl
  · exact hx.2.1▸h.del _
abbrev stage_Len_raw75_Q (b bj r:Nat) (m:KV) (zv:Value) (zs0:Slot) (zs1:Slot):Prop:= ∃zx:Int,(zx=((m.length:Nat):Int))/\zv= .int .i64 zx/\zs0= .blk b (.cells #[.map (some r),pp bj 0, .func (.func 13) #[] #[]] 75 (0,0))/\zs1=(mo r m)/\True
set_option maxRecDepth 100000 in
theorem stage_Len_raw75_vc (b bj r:Nat) (m:KV):codeW Try.prog 8 none 2000 none (bodyOf Try.f36) (.reg [S0] (.reg [S0,S0,S0, .sem [.rd 0], .specr [1] F_mlen,S0] (.done)))
    (init #[pp b 0] [.blk b (.cells #[.map (some r),pp bj 0, .func (.func 13) #[] #[]] 75 (0,0)),(mo r m)]) (finW Try.prog Try.f36 [] [0,1] (X:=Int) (fun zx=> .int .i64 zx) (fun zx=> [.blk b (.cells #[.map (some r),pp bj 0, .func (.func 13) #[] #[]] 75 (0,0)),(mo r m)]) (fun zx=>(zx=((m.length:Nat):Int))))=
    (rdQ 1 b (opQr Try.prog (vS (Builtin.len_ #[73] 3 #[.map (some r)])) [(mo r m)] Int (fun zx=> .int .i64 zx) (fun zx=>zx=(((m).length:Nat):Int)) (fun x1=>stage_Len_raw75_Q b bj r m (Value.int .i64 x1) (Slot.blk b (.cells #[.map (some r),pp bj 0, .func (.func 13) #[] #[]] 75 (0,0))) (mo r m)))):=by kernel_rfl
set_option maxRecDepth 100000 in
theorem stage_Len_raw75 (b bj r:Nat) (m:KV) :CallT Try.prog 36 #[pp b 0] [.blk b (.cells #[.map (some r),pp bj 0, .func (.func 13) #[] #[]] 75 (0,0)),(mo r m)] Int (fun zx=> .int .i64 zx) (fun zx=> [.blk b (.cells #[.map (some r),pp bj 0, .func (.func 13) #[] #[]] 75 (0,0)),(mo r m)]) (fun zx=>(zx=((m.length:Nat):Int))):=by
  refine call_of (c:=bodyOf Try.f36) (n:=8) (fn:=Try.f36) Try.mixed Try.func36 (by kernel_rfl) (by kernel_rfl) (by kernel_rfl) 2000 _ [] [0,1] rfl rfl (Eq.mpr (stage_Len_raw75_vc b bj r m) ?_)
  refine rdQ_mk 1 _ (opQr_mk (xmlen' Try.kl75.tm.und 3) (⟨_,rfl⟩) fun x1 h1=> ?_)
  have hx:=h1
  exact ⟨_,hx,rfl,rfl,rfl,trivial⟩
def stage_Len75_C:List Value->List Slot->Ctr:=fun vs hs=>⟨Int,fun zx=> .int .i64 zx,fun _=>hs,fun zx=>zx=(((skv (sarg hs 0)).length:Nat):Int)⟩
theorem stage_Len75 (b bj:Nat) (m:KV) :CallT Try.prog 36 #[.pointer (some ⟨b,0,none⟩)] [(mS Try.mk75 b bj m)] Int (fun zx=> .int .i64 zx) (fun zx=> [(mS Try.mk75 b bj m)]) (fun zx=>(zx=((m.length:Nat):Int))):=by
  refine (mS_call (m' :=fun _=>m) (us:=fun _=> []) (enterOK (c:=bodyOf Try.f36) Try.func36 (by kernel_rfl) (by kernel_rfl)) (fun r hk=> ?_) (fun _ _ h=>h))
  exact stage_Len_raw75 b bj r m
abbrev keys_it75_Q (l:Nat) (rec:Loop) (r c:Nat) (m:KV) (T:List Value->Slot) (zv:Value) (zs0:Slot) (zs1:Slot) (zs2:Slot) (zs3:Slot):Prop:= ∃zx:List Value,(zx.Perm (m.map (·.1)))/\zv= .tuple #[]/\zs0=(loopB l rec)/\zs1=bk c #[.map (some r)] 73/\zs2=(mo r m)/\zs3=(T zx)/\True
set_option maxRecDepth 100000 in
theorem keys_it75_vc (l:Nat) (rec:Loop) (r c:Nat) (m:KV) (T:List Value->Slot):codeW Try.prog 14 none 2000 none (bodyOf Try.f62) (.reg [.sem [.rd 1], .specw [2] [2] (fun _ _=>⟨Nat,ptr,fun it=> [mit r it m []],fun _=>True⟩)] (.inv (List Value×Nat) (fun zx=> [(0, .func (.yield l) #[] #[]),(1,pp c 0),(5,pp zx.2 0)]) (fun zx=> [(0,(loopB l rec)),(1,bk c #[.map (some r)] 73),(2,(mit r zx.2 m zx.1)),(3,(T zx.1))]) (fun zx=>zx.1.Nodup/\ ∀k∈zx.1,k∈m.map (·.1)) (fun zx=>m.length - zx.1.length) (fun x2=> .reg [.specw [2] [2] (fun _ _=>⟨Option Value,nxv m,fun x=> [mitE r x2.2 m x2.1 x],nxP m x2.1⟩), .eq (fun vs=> .bool (cb (cell (varg vs 0) 0)))] (.cond (.reg [.specr [2] (fun _ hs=>⟨Unit,fun _=> .tuple #[slast (sarg hs 0),(mget m (slast (sarg hs 0))).getD undef],fun _=>hs,fun _=>True⟩),S0,S0] (.reg [S0,S0, .callw [0,3] [0,3] (fun vs _=>⟨Unit,fun _=> .bool true,fun _=> [loopB l rec,T (x2.1++ [varg vs 1])],fun _=>True⟩),S0] (.condF (.done)))) (.done)))))
    (init #[.func (.yield l) #[] #[],pp c 0] [(loopB l rec),bk c #[.map (some r)] 73,(mo r m),(T [])]) (finW Try.prog Try.f62 [] [0,1,2,3] (X:=List Value) (fun zx=> .tuple #[]) (fun zx=> [(loopB l rec),bk c #[.map (some r)] 73,(mo r m),(T zx)]) (fun zx=>(zx.Perm (m.map (·.1)))))=
    (rdQ 1 c (opQ Try.prog (vS (Instr.range 73 (.map (some r)))) [(mo r m)] Nat (fun zx=>pp zx 0) (fun zx=> [(mit r zx m ([]))]) (fun zx=>True) (fun x1=>(∃zx:List Value×Nat,(zx.1.Nodup/\ ∀k∈zx.1,k∈m.map (·.1))/\Value.func (.yield l) #[] #[]= .func (.yield l) #[] #[]/\pp c 0=pp c 0/\pp x1 0=pp zx.2 0/\(loopB l rec)=(loopB l rec)/\bk c #[.map (some r)] 73=bk c #[.map (some r)] 73/\(mit r x1 m ([]))=(mit r zx.2 m zx.1)/\(T [])=(T zx.1)/\True)/\ ∀x2:List Value×Nat,∀jx2:Nat->Value,(x2.1.Nodup/\ ∀k∈x2.1,k∈m.map (·.1))->opQ Try.prog (vS (Instr.next (pp x2.2 0) false 0)) [(mit r x2.2 m x2.1)] (Option Value) (fun zx=>(nxv m zx)) (fun zx=> [(mitE r x2.2 m x2.1 zx)]) (fun zx=>nxP m x2.1 zx) (fun x3=>(PureRun Try.prog (vS (Instr.extract (nxv m x3) 0)) (.bool (cb (cell (nxv m x3) 0))))/\((cb (cell (nxv m x3) 0))=true->opQr Try.prog (vS (Instr.entry (pp x2.2 0))) [(mitE r x2.2 m x2.1 x3)] Unit (fun _=> .tuple #[(slast (mitE r x2.2 m x2.1 x3)),((mget m (slast (mitE r x2.2 m x2.1 x3))).getD undef)]) (fun _=>True) (fun _=>rndQ Try.prog l #[(slast (mitE r x2.2 m x2.1 x3))] [(loopB l rec),(T x2.1)] Unit (fun _=> .bool true) (fun _=> [(loopB l rec),(T (x2.1++ [(slast (mitE r x2.2 m x2.1 x3))]))]) (fun _=>True) (fun _=>(false=false)/\ ∃zy:List Value×Nat,(zy.1.Nodup/\ ∀k∈zy.1,k∈m.map (·.1))/\m.length - zy.1.length<m.length - x2.1.length/\Value.func (.yield l) #[] #[]= .func (.yield l) #[] #[]/\pp c 0=pp c 0/\pp x2.2 0=pp zy.2 0/\(loopB l rec)=(loopB l rec)/\bk c #[.map (some r)] 73=bk c #[.map (some r)] 73/\(mitE r x2.2 m x2.1 x3)=(mit r zy.2 m zy.1)/\(T (x2.1++ [(slast (mitE r x2.2 m x2.1 x3))]))=(T zy.1)/\True)))/\((cb (cell (nxv m x3) 0))=false->keys_it75_Q l rec r c m T (Value.tuple #[]) (loopB l rec) (bk c #[.map (some r)] 73) (mitE r x2.2 m x2.1 x3) (T x2.1)))))):=by kernel_rfl
set_option maxRecDepth 100000 in
theorem keys_it75 (l:Nat) (rec:Loop) (r c:Nat) (m:KV) (T:List Value->Slot) (hm:MOK m) (hT: ∀ (ks:List Value) (k:Value),(ks.Nodup/\ ∀j∈ks,j∈m.map (·.1))->k∉ks->k∈m.map (·.1)->RoundT Try.prog l #[k] [loopB l rec,T ks] Unit (fun _=> .bool true) (fun _=> [loopB l rec,T (ks++ [k])]) (fun _=>True)):CallT Try.prog 62 #[.func (.yield l) #[] #[],pp c 0] [(loopB l rec),bk c #[.map (some r)] 73,(mo r m),(T [])] (List Value) (fun zx=> .tuple #[]) (fun zx=> [(loopB l rec),bk c #[.map (some r)] 73,(mo r m),(T zx)]) (fun zx=>(zx.Perm (m.map (·.1)))):=by
  refine call_of (c:=bodyOf Try.f62) (n:=14) (fn:=Try.f62) Try.mixed Try.func62 (by kernel_rfl) (by kernel_rfl) (by kernel_rfl) 2000 _ [] [0,1,2,3] rfl rfl (Eq.mpr (keys_it75_vc l rec r c m T) ?_)
  refine rdQ_mk 1 _ (opQ_mk (xrange (kt:=3) (vt:=3) (by kernel_rfl)) (⟨0,trivial⟩) fun x1 h1=>⟨?_,fun x2 jx2 h2=> ?_⟩)
  · exact ⟨([],x1),⟨List.nodup_nil,fun k h=>by cases h⟩,rfl,rfl,rfl,rfl,rfl,rfl,rfl,trivial⟩
  have hN:=h2
  refine opQ_mk (xnext 0 hm) (wit_next hm hN) fun x3 h3=> ?_
  have hX:=h3
  refine ⟨xfirst' _ _,⟨fun h4=> ?_,fun h4=> ?_⟩⟩
  · refine opQr_mk (xentry' hm (nx_some h4)) (⟨(),trivial⟩) fun _ _=>rndQ_mk (keys_yield hX (nx_some h4) (fun k=>hT x2.1 k hN)) (⟨(),trivial⟩) fun _ _=>⟨rfl,?_⟩
    have hS:=nx_some h4
    have hP:=nxP_some hX hS
    rw [slast_some hS,mitE_some hS]
    exact ⟨(x2.1++ [_],x2.2),keys_step hN hP,keys_mu hN hP,rfl,rfl,rfl,rfl,rfl,rfl,rfl,trivial⟩
  unfold keys_it75_Q
  rw [mitE_none (nx_none h4)]
  exact ⟨x2.1,nxP_none hX (nx_none h4),rfl,rfl,rfl,rfl,rfl,trivial⟩
theorem Try.sl82:SlT Try.prog 82 3 (.int .i64 0):=SlT.of (by kernel_rfl) (by kernel_rfl) (by kernel_rfl) (by kernel_rfl) rfl
noncomputable def Try.rfA66:Code:=((rfs (bodyOf Try.f66)).getD 0 (.skip, .skip)).1
noncomputable def Try.rfB66:Code:=((rfs (bodyOf Try.f66)).getD 0 (.skip, .skip)).2
set_option maxRecDepth 100000 in
theorem keys_round75_vc (l D:Nat) (fn:FuncId) (tmps:Array Value) (b:Nat) (y:Row) (n:Int) (fr:Nat->Value):roundW Try.prog 13 l 400 Try.rfA66 Try.rfB66 (.reg [.sem []] (.reg [.sem [.rd 1], .sem [], .sem [.nw 3], .specw [2,3] [2,3] (F_appN 3), .specw [1] [1] F_put] (.done))) (recOf fn tmps #[7] Try.rfA66 Try.rfB66 D) ⟨putFr (upd fr 2 (Value.pointer (some ⟨b,0,none⟩))) [(7, .int .i64 n)],ofList (loopB l (recOf fn tmps #[7] Try.rfA66 Try.rfB66 D):: [.blk b (.cells #[sv y] 82 (0,0)),(ss 3 y)]),[]⟩ [1,2] (X:=Row) (fun zx:Row=> [.blk b (.cells #[sv zx] 82 (0,0)),(ss 3 zx)]) (fun zx:Row=>vals zx=vals y++ [.int .i64 n])=
    ((loopB l (recOf fn tmps #[7] Try.rfA66 Try.rfB66 D))=loopB l (recOf fn tmps #[7] Try.rfA66 Try.rfB66 D)/\rdQ 1 b (∀b1:Nat,opQ Try.prog (do pure (.value (←Builtin.append_ #[82,82] 82 #[sv y, .slice (some ⟨b1,0,none⟩) 1 1]))) [(ss 3 y), .blk b1 (.cells #[.int .i64 n] 3 (0,0))] Row (fun zx=>sv zx) (fun zx=> [(ss 3 zx), .blk b1 (.cells #[.int .i64 n] 3 (0,0))]) (fun zx=>vals zx=rvals (sv y) (ss 3 y)++srcv (Value.slice (some ⟨b1,0,none⟩) 1 1) (Slot.blk b1 (.cells #[.int .i64 n] 3 (0,0)))) (fun x2=>opQ Try.prog (do Instr.storeAt 82 (.pointer (some ⟨b,0,none⟩)) (sv x2);pure .skip) [.blk b (.cells #[sv y] 82 (0,0))] Unit (fun _=> .tuple #[]) (fun _=> [.blk b (.cells #[sv x2] 82 (0,0))]) (fun _=>True) (fun _=>(loopB l { (recOf fn tmps #[7] Try.rfA66 Try.rfB66 D) with state:= .busy })=loopB l { (recOf fn tmps #[7] Try.rfA66 Try.rfB66 D) with state:= .busy }/\ ∃zx:Row,(vals zx=vals y++ [.int .i64 n])/\Slot.blk b (.cells #[sv x2] 82 (0,0))= .blk b (.cells #[sv zx] 82 (0,0))/\(ss 3 x2)=(ss 3 zx)/\True)))):=by kernel_rfl
set_option maxRecDepth 100000 in
theorem keys_round75 (l D:Nat) (fn:FuncId) (tmps:Array Value) (b:Nat) (y:Row) (n:Int) (hz:tmps.size=13) (t2:tmps.getD 2 undef=Value.pointer (some ⟨b,0,none⟩)) (hy:(vals y).length<=1048576):RoundT Try.prog l #[.int .i64 n] (loopB l (recOf fn tmps #[7] Try.rfA66 Try.rfB66 D):: [.blk b (.cells #[sv y] 82 (0,0)),(ss 3 y)]) Row (fun _=> .bool true) (fun zx:Row=>loopB l (recOf fn tmps #[7] Try.rfA66 Try.rfB66 D):: [.blk b (.cells #[sv zx] 82 (0,0)),(ss 3 zx)]) (fun zx:Row=>vals zx=vals y++ [.int .i64 n]):=by
  refine round_of (n:=13) (fuel:=400) (fr:=(upd (fun i=>tmps.getD i undef) 2 (Value.pointer (some ⟨b,0,none⟩)))) (Hs:= [.blk b (.cells #[sv y] 82 (0,0)),(ss 3 y)]) (us:=(fun zx:Row=> [.blk b (.cells #[sv zx] 82 (0,0)),(ss 3 zx)])) Try.mixed hz (fun i=>congrFun (upd_known (f:=(fun i=>tmps.getD i undef)) (t:=2) (v:=Value.pointer (some ⟨b,0,none⟩)) (t2)) i) rfl rfl _ [1,2] rfl (Eq.mpr (keys_round75_vc l D fn tmps b y n (fun i=>tmps.getD i undef)) ?_)
  refine ⟨rfl,?_⟩
  refine rdQ_mk 1 _ ?_
  intro b1
  refine opQ_mk (xappNR Try.sl82 82 y (by omega) (Nat.le_of_ble_eq_true rfl) (by decide) rfl) (wit_appN _) fun x2 h1=> ?_
  rw [rvals_eq] at h1
  replace h1:vals x2=vals y++ [Value.int .i64 n]:=h1
  have ha:=h1
  refine opQ_mk (xputv (b:=b) (cs:= #[sv y]) (ty:=82) (te:=82) (fun w=>by kernel_rfl) 0 (sv x2) (cells_sv _) (one_sv _) (by show 0<1;decide)) (⟨(),trivial⟩) fun _ _=> ?_
  exact ⟨rfl,x2,ha,rfl,rfl,trivial⟩
theorem key_int75 {m:KV} (hk:KOK Try.mk75 m) {k:Value} (h:k∈m.map (·.1)): ∃n:Int,k= .int .i64 n:=by
  obtain ⟨x,hx,rfl⟩:=List.mem_map.1 h
  exact (hk.ok x hx).1
def keys_AppendSeq75_C:List Value->List Slot->Ctr:=fun vs hs=>⟨Row,fun zx=>sv zx,fun zx=> [.blk (sblk (sarg hs 0)) (.cells #[.map (some (vblk (scell (sarg hs 0) 0)))] 73 (0,0)),(mo (vblk (scell (sarg hs 0) 0)) (skv (sarg hs 1))),(ss 3 zx)],fun zx=>(vals zx).Perm ((skv (sarg hs 1)).map (·.1))⟩
abbrev keys_AppendSeq75_Q (r c:Nat) (m:KV) (zv:Value) (zs0:Slot) (zs1:Slot) (zs2:Slot):Prop:= ∃zx:Row,((vals zx).Perm (m.map (·.1)))/\zv=sv zx/\zs0=bk c #[.map (some r)] 73/\zs1=(mo r m)/\zs2=(ss 3 zx)/\True
abbrev keys_AppendSeq75_A (r c:Nat) (m:KV) (zF:SF Row):Prop:=zF #[.slice none 0 0, .func (.func 62) #[] #[pp c 0]] [bk c #[.map (some r)] 73,(mo r m)] (fun zx=>sv zx) (fun zx=> [bk c #[.map (some r)] 73,(mo r m),(ss 3 zx)]) (fun zx=>((vals zx).Perm (m.map (·.1))))
set_option maxRecDepth 100000 in
theorem keys_AppendSeq75_vc (r c:Nat) (m:KV):keys_AppendSeq75_A r c m (fun za zh zv zu zp=>codeW Try.prog 13 none 2000 none (bodyOf Try.f66) (.reg [.sem [.nw 2],S0] (.reg [S0] (.rf [6,2] [0,1,2] [50,0,1,60,61] (fun _ hs=>⟨Row,fun _=>undef,fun zx=> [bk c #[.map (some r)] 73,(mo r m), .blk (sblk (sarg hs 2)) (.cells #[sv zx] 82 (0,0)),(ss 3 zx)],fun zx=>(vals zx).Perm (m.map (·.1))⟩) (.reg [.sem [.rd 60],S0] (.done)))))
    (init za zh) (finM Try.prog Try.f66 [] [0,1,61] 50 (X:=Row) zv zu zp))=
    (∀b1:Nat,(∀fr' :Nat->Value,fr' 6=Value.func (.func 62) #[] #[pp c 0]->fr' 2=pp b1 0->RangeT Try.prog 13 (Operand.tmp 6) #[7] Try.rfA66 Try.rfB66 fr' [bk c #[.map (some r)] 73,(mo r m),bk b1 #[.slice none 0 0] 82] Row (fun zx=> [bk c #[.map (some r)] 73,(mo r m),bk b1 #[sv zx] 82,(ss 3 zx)]) (fun zx=>(vals zx).Perm (m.map (·.1))))/\(∃zx:Row,(vals zx).Perm (m.map (·.1)))/\ ∀ (d2:Nat) (x3:Row),((vals x3).Perm (m.map (·.1)))->rdQ 1 b1 (Slot.blk d2 (.deferred (some []))= .blk d2 (.deferred (some []))/\keys_AppendSeq75_Q r c m (sv x3) (bk c #[.map (some r)] 73) (mo r m) (ss 3 x3))):=by kernel_rfl
set_option maxRecDepth 100000 in
theorem keys_AppendSeq75 (r c:Nat) (m:KV) (hk:KOK Try.mk75 m) (hl:m.length<=1048576):keys_AppendSeq75_A r c m (fun za zh zv zu zp=>CallT Try.prog 66 za zh Row zv zu zp):=by
  refine call_of_mark (c:=bodyOf Try.f66) (n:=13) (fn:=Try.f66) Try.mixed Try.func66 (by kernel_rfl) (by kernel_rfl) (by kernel_rfl) 2000 _ [] [0,1,61] 50 rfl rfl (Eq.mpr (keys_AppendSeq75_vc r c m) ?_)
  intro b1
  exact ⟨fun fr' ht hb=>range_keys (gf:=62) ht hk.once hl (fun l rec T hT=>keys_it75 l rec r c m T hk.once hT) (fun l D fn tmps y k hkm hy hz hf=>(key_int75 hk hkm).elim fun n hn=>hn▸keys_round75 l D fn tmps b1 y n hz ((hf 2).trans hb) hy),⟨.mk 0 (m.map (·.1)) [],List.Perm.refl _⟩,fun d2 x3 h1=>rdQ_mk 1 _ ⟨rfl,⟨x3,h1,rfl,rfl,rfl,rfl,trivial⟩⟩⟩
def keys_Collect75_C:List Value->List Slot->Ctr:=fun vs hs=>⟨Row,fun zx=>sv zx,fun zx=> [.blk (sblk (sarg hs 0)) (.cells #[.map (some (vblk (scell (sarg hs 0) 0)))] 73 (0,0)),(mo (vblk (scell (sarg hs 0) 0)) (skv (sarg hs 1))),(ss 3 zx)],fun zx=>(vals zx).Perm ((skv (sarg hs 1)).map (·.1))⟩
abbrev keys_Collect75_Q (r c:Nat) (m:KV) (zv:Value) (zs0:Slot) (zs1:Slot) (zs2:Slot):Prop:= ∃zx:Row,((vals zx).Perm (m.map (·.1)))/\zv=sv zx/\zs0=bk c #[.map (some r)] 73/\zs1=(mo r m)/\zs2=(ss 3 zx)/\True
abbrev keys_Collect75_A (r c:Nat) (m:KV) (zF:SF Row):Prop:=zF #[.func (.func 62) #[] #[pp c 0]] [bk c #[.map (some r)] 73,(mo r m)] (fun zx=>sv zx) (fun zx=> [bk c #[.map (some r)] 73,(mo r m),(ss 3 zx)]) (fun zx=>((vals zx).Perm (m.map (·.1))))
set_option maxRecDepth 100000 in
theorem keys_Collect75_vc (r c:Nat) (m:KV):keys_Collect75_A r c m (fun za zh zv zu zp=>codeW Try.prog 5 none 2000 none (bodyOf Try.f60) (.reg [S0] (.reg [S0, .callw [0,1] [0,1,40] keys_AppendSeq75_C,S0] (.done)))
    (init za zh) (finW Try.prog Try.f60 [] [0,1,40] (X:=Row) zv zu zp))=
    (callQ Try.prog 66 #[.slice none 0 0, .func (.func 62) #[] #[pp c 0]] [bk c #[.map (some r)] 73,(mo r m)] Row (fun zx=>sv zx) (fun zx=> [bk c #[.map (some r)] 73,(mo r m),(ss 3 zx)]) (fun zx=>(vals zx).Perm (m.map (·.1))) (fun x1=>keys_Collect75_Q r c m (sv x1) (bk c #[.map (some r)] 73) (mo r m) (ss 3 x1))):=by kernel_rfl
set_option maxRecDepth 100000 in
theorem keys_Collect75 (r c:Nat) (m:KV) (hk:KOK Try.mk75 m) (hl:m.length<=1048576):keys_Collect75_A r c m (fun za zh zv zu zp=>CallT Try.prog 60 za zh Row zv zu zp):=by
  refine call_of (c:=bodyOf Try.f60) (n:=5) (fn:=Try.f60) Try.mixed Try.func60 (by kernel_rfl) (by kernel_rfl) (by kernel_rfl) 2000 _ [] [0,1,40] rfl rfl (Eq.mpr (keys_Collect75_vc r c m) ?_)
  exact callQ_mk (keys_AppendSeq75 r c m (by assumption) (by assumption)) (⟨.mk 0 (m.map (·.1)) [],List.Perm.refl _⟩) fun x1 h1=>⟨x1,h1,rfl,rfl,rfl,rfl,trivial⟩
def maps_Keys75_C:List Value->List Slot->Ctr:=fun vs hs=>⟨Nat,fun zx=> .func (.func 62) #[] #[pp zx 0],fun zx=> [bk zx #[.map (some (vblk (varg vs 1)))] 73],fun zx=>True⟩
abbrev maps_Keys75_Q (r:Nat) (zv:Value) (zs0:Slot):Prop:= ∃zx:Nat,(True)/\zv= .func (.func 62) #[] #[pp zx 0]/\zs0=bk zx #[.map (some r)] 73/\True
abbrev maps_Keys75_A (r:Nat) (zF:SF Nat):Prop:=zF #[.map (some r)] [] (fun zx=> .func (.func 62) #[] #[pp zx 0]) (fun zx=> [bk zx #[.map (some r)] 73]) (fun zx=>(True))
set_option maxRecDepth 100000 in
theorem maps_Keys75_vc (r:Nat):maps_Keys75_A r (fun za zh zv zu zp=>codeW Try.prog 4 none 2000 none (bodyOf Try.f51) (.reg [.sem [.nw 40],S0] (.reg [S0,S0] (.done)))
    (init za zh) (finW Try.prog Try.f51 [] [40] (X:=Nat) zv zu zp))=
    (∀b1:Nat,maps_Keys75_Q r (Value.func (.func 62) #[] #[pp b1 0]) (bk b1 #[.map (some r)] 73)):=by kernel_rfl
set_option maxRecDepth 100000 in
theorem maps_Keys75 (r:Nat) :maps_Keys75_A r (fun za zh zv zu zp=>CallT Try.prog 51 za zh Nat zv zu zp):=by
  refine call_of (c:=bodyOf Try.f51) (n:=4) (fn:=Try.f51) Try.mixed Try.func51 (by kernel_rfl) (by kernel_rfl) (by kernel_rfl) 2000 _ [] [40] rfl rfl (Eq.mpr (maps_Keys75_vc r) ?_)
  intro b1
  exact ⟨b1,trivial,rfl,rfl,trivial⟩
def keys_less75_C:List Value->List Slot->Ctr:=fun vs hs=>⟨Unit,fun _=> .bool (decide ((ci (varg vs 1))<(ci (varg vs 2)))),fun _=>hs,fun _=>True⟩
abbrev keys_less75_Q (x y:Int) (zv:Value) :Prop:= ∃_:Unit,(True)/\zv= .bool (decide (x<y))/\True
abbrev keys_less75_A (x y:Int) (zF:SF Unit):Prop:=zF #[.int .i64 x, .int .i64 y] [] (fun _=> .bool (decide (x<y))) (fun _=> []) (fun _=>True)
set_option maxRecDepth 100000 in
theorem keys_less75_vc (x y:Int):keys_less75_A x y (fun za zh zv zu zp=>codeW Try.prog 8 none 2000 none (bodyOf Try.f13) (.reg [S0] (.reg [S0,S0,S0,S0] (.done)))
    (init za zh) (finW Try.prog Try.f13 [] [] (X:=Unit) zv zu zp))=
    (keys_less75_Q x y (Value.bool (decide (x<y)))):=by kernel_rfl
set_option maxRecDepth 100000 in
theorem keys_less75 (x y:Int) :keys_less75_A x y (fun za zh zv zu zp=>CallT Try.prog 13 za zh Unit zv zu zp):=by
  refine call_of (c:=bodyOf Try.f13) (n:=8) (fn:=Try.f13) Try.mixed Try.func13 (by kernel_rfl) (by kernel_rfl) (by kernel_rfl) 2000 _ [] [] rfl rfl (Eq.mpr (keys_less75_vc x y) ?_)
  exact ⟨(),trivial,rfl,trivial⟩
abbrev keys_cmp75_Q (w0:World) (c b:Nat) (x y:Int) (zv:Value) (zs0:Slot):Prop:= ∃_:Unit,(True)/\zv= .int .i64 (cmpI x y)/\zs0=(old w0)/\True
set_option maxRecDepth 100000 in
theorem keys_cmp75_vc (w0:World) (c b:Nat) (x y:Int):codeW Try.prog 22 none 2000 none (bodyOf Try.f52) (.reg [S0] (.reg [.specr [0] (fun _ hs=>⟨Unit,fun _=>pp b 0,fun _=>hs,fun _=>True⟩),S0,S0, .specr [0] (fun _ hs=>⟨Unit,fun _=> .func (.func 13) #[] #[],fun _=>hs,fun _=>True⟩),S0,S0, .callr [] keys_less75_C,S0] (.cond (.reg [S0] (.done)) (.reg [.specr [0] (fun _ hs=>⟨Unit,fun _=>pp b 0,fun _=>hs,fun _=>True⟩),S0,S0, .specr [0] (fun _ hs=>⟨Unit,fun _=> .func (.func 13) #[] #[],fun _=>hs,fun _=>True⟩),S0,S0, .callr [] keys_less75_C,S0] (.cond (.reg [S0] (.done)) (.reg [S0] (.done)))))))
    (init #[.int .i64 x, .int .i64 y,pp c 0] [(old w0)]) (finW Try.prog Try.f52 [] [0] (X:=Unit) (fun _=> .int .i64 (cmpI x y)) (fun _=> [(old w0)]) (fun _=>True))=
    (opQr Try.prog (vS (Instr.loadAt 37 (pp c 0))) [(old w0)] Unit (fun _=>pp b 0) (fun _=>True) (fun _=>opQr Try.prog (vS (Instr.loadAt 39 (pp b 2))) [(old w0)] Unit (fun _=> .func (.func 13) #[] #[]) (fun _=>True) (fun _=>callQr Try.prog 13 #[.int .i64 x, .int .i64 y] [] Unit (fun _=> .bool (decide (x<y))) (fun _=>True) (fun _=>((decide (x<y))=true->keys_cmp75_Q w0 c b x y (Value.int .i64 (-1)) (old w0))/\((decide (x<y))=false->opQr Try.prog (vS (Instr.loadAt 37 (pp c 0))) [(old w0)] Unit (fun _=>pp b 0) (fun _=>True) (fun _=>opQr Try.prog (vS (Instr.loadAt 39 (pp b 2))) [(old w0)] Unit (fun _=> .func (.func 13) #[] #[]) (fun _=>True) (fun _=>callQr Try.prog 13 #[.int .i64 y, .int .i64 x] [] Unit (fun _=> .bool (decide (y<x))) (fun _=>True) (fun _=>((decide (y<x))=true->keys_cmp75_Q w0 c b x y (Value.int .i64 1) (old w0))/\((decide (y<x))=false->keys_cmp75_Q w0 c b x y (Value.int .i64 0) (old w0)))))))))):=by kernel_rfl
set_option maxRecDepth 100000 in
theorem keys_cmp75 (w0:World) (c b:Nat) (x y:Int) (hc1:w0.cell? ⟨c,0,none⟩=some (pp b 0)) (hc2:w0.cell? ⟨b,2,none⟩=some (.func (.func 13) #[] #[])):CallT Try.prog 52 #[.int .i64 x, .int .i64 y,pp c 0] [(old w0)] Unit (fun _=> .int .i64 (cmpI x y)) (fun _=> [(old w0)]) (fun _=>True):=by
  refine call_of (c:=bodyOf Try.f52) (n:=22) (fn:=Try.f52) Try.mixed Try.func52 (by kernel_rfl) (by kernel_rfl) (by kernel_rfl) 2000 _ [] [0] rfl rfl (Eq.mpr (keys_cmp75_vc w0 c b x y) ?_)
  refine opQr_mk (xold1 Try.isAgg37 hc1) (⟨(),trivial⟩) fun _ _=>opQr_mk (xold1 Try.isAgg39 hc2) (⟨(),trivial⟩) fun _ _=>callQr_mk (keys_less75 x y) (⟨(),trivial⟩) fun _ _=>⟨fun h1=> ?_,fun h1=> ?_⟩
  · refine ⟨(),trivial,?_,rfl,trivial⟩
    unfold cmpI
    simp only [decide_eq_true_eq,decide_eq_false_iff_not] at h1
    simp only [h1,if_true,if_false,ite_true,ite_false]
  refine opQr_mk (xold1 Try.isAgg37 hc1) (⟨(),trivial⟩) fun _ _=>opQr_mk (xold1 Try.isAgg39 hc2) (⟨(),trivial⟩) fun _ _=>callQr_mk (keys_less75 y x) (⟨(),trivial⟩) fun _ _=>⟨fun h2=> ?_,fun h2=> ?_⟩
  · refine ⟨(),trivial,?_,rfl,trivial⟩
    unfold cmpI
    simp only [decide_eq_true_eq,decide_eq_false_iff_not] at h1 h2
    simp only [h1,h2,if_true,if_false,ite_true,ite_false]
  refine ⟨(),trivial,?_,rfl,trivial⟩
  unfold cmpI
  simp only [decide_eq_true_eq,decide_eq_false_iff_not] at h1 h2
  simp only [h1,h2,if_true,if_false,ite_true,ite_false]
def Try.sort61_ren:Go.Shelf.Ren:=⟨fun | 6=>61 | 15=>68 | 14=>67 | 28=>79 | 29=>80 | 20=>71 | 21=>72 | 22=>73 | 23=>74 | 24=>75 | 25=>76 | 26=>77 | 27=>78 | 46=>89 | 47=>90 | 48=>91 | 49=>92 | 50=>93 | 57=>97 | n=>n,fun | 22=>82 | 24=>3 | 25=>106 | 3=>3 | 39=>98 | 0=>0 | 53=>23 | 55=>56 | 4=>4 | 46=>125 | 45=>124 | 50=>52 | 5=>5 | 9=>9 | 66=>136 | 70=>140 | 76=>144 | 77=>145 | n=>n,fun | n=>n⟩
theorem Try.sort61:Go.Proofs.SlLaysF.n6 Try.prog Try.sort61_ren:= {
  mixed:=by kernel_rfl
  f6:=⟨Try.f61.name,by decide,Try.func61.trans (congrArg some (by kernel_rfl))⟩
  f14:=⟨Try.f67.name,by decide,Try.func67.trans (congrArg some (by kernel_rfl))⟩
  f15:=Try.func68.trans (congrArg some (by kernel_rfl))
  f20:=⟨Try.f71.name,by decide,Try.func71.trans (congrArg some (by kernel_rfl))⟩
  f21:=⟨Try.f72.name,by decide,Try.func72.trans (congrArg some (by kernel_rfl))⟩
  f22:=⟨Try.f73.name,by decide,Try.func73.trans (congrArg some (by kernel_rfl))⟩
  f23:=⟨Try.f74.name,by decide,Try.func74.trans (congrArg some (by kernel_rfl))⟩
  f24:=⟨Try.f75.name,by decide,Try.func75.trans (congrArg some (by kernel_rfl))⟩
  f25:=⟨Try.f76.name,by decide,Try.func76.trans (congrArg some (by kernel_rfl))⟩
  f26:=⟨Try.f77.name,by decide,Try.func77.trans (congrArg some (by kernel_rfl))⟩
  f27:=⟨Try.f78.name,by decide,Try.func78.trans (congrArg some (by kernel_rfl))⟩
  f28:=Try.func79.trans (congrArg some (by kernel_rfl))
  f29:=Try.func80.trans (congrArg some (by kernel_rfl))
  f46:=⟨Try.f89.name,by decide,Try.func89.trans (congrArg some (by kernel_rfl))⟩
  f47:=Try.func90.trans (congrArg some (by kernel_rfl))
  f48:=Try.func91.trans (congrArg some (by kernel_rfl))
  f49:=⟨Try.f92.name,by decide,Try.func92.trans (congrArg some (by kernel_rfl))⟩
  f50:=⟨Try.f93.name,by decide,Try.func93.trans (congrArg some (by kernel_rfl))⟩
  f57:=⟨Try.f97.name,by decide,Try.func97.trans (congrArg some (by kernel_rfl))⟩
  t0:=Try.underlying0
  a0:=Try.isAgg0
  z0:=Try.sizeOf0
  v0:=Try.zeroValue0
  t3:=Try.underlying3
  a3:=Try.isAgg3
  z3:=Try.sizeOf3
  v3:=Try.zeroValue3
  t4:=Try.underlying4
  a4:=Try.isAgg4
  z4:=Try.sizeOf4
  v4:=Try.zeroValue4
  t5:=Try.underlying5
  a5:=Try.isAgg5
  z5:=Try.sizeOf5
  v5:=Try.zeroValue5
  t9:=Try.underlying9
  a9:=Try.isAgg9
  z9:=Try.sizeOf9
  v9:=Try.zeroValue9
  t22:=Try.underlying82
  a22:=Try.isAgg82
  z22:=Try.sizeOf82
  v22:=Try.zeroValue82
  a24:=Try.isAgg3
  z24:=Try.sizeOf3
  t25:=Try.underlying106
  a25:=Try.isAgg106
  z25:=Try.sizeOf106
  v25:=Try.zeroValue106
  t39:=Try.underlying98
  a39:=Try.isAgg98
  z39:=Try.sizeOf98
  v39:=Try.zeroValue98
  t45:=Try.underlying124
  a45:=Try.isAgg124
  z45:=Try.sizeOf124
  v45:=Try.zeroValue124
  t46:=Try.underlying125
  a46:=Try.isAgg125
  z46:=Try.sizeOf125
  v46:=Try.zeroValue125
  t50:=Try.underlying52
  a50:=Try.isAgg52
  z50:=Try.sizeOf52
  v50:=Try.zeroValue52
  t53:=Try.underlying23
  a53:=Try.isAgg23
  z53:=Try.sizeOf23
  v53:=Try.zeroValue23
  t55:=Try.underlying56
  a55:=Try.isAgg56
  z55:=Try.sizeOf56
  v55:=Try.zeroValue56
  t66:=Try.underlying136
  a66:=Try.isAgg136
  z66:=Try.sizeOf136
  v66:=Try.zeroValue136
  t70:=Try.underlying140
  a70:=Try.isAgg140
  z70:=Try.sizeOf140
  v70:=Try.zeroValue140
  t76:=Try.underlying144
  a76:=Try.isAgg144
  z76:=Try.sizeOf144
  v76:=Try.zeroValue144
  t77:=Try.underlying145
  a77:=Try.isAgg145
  z77:=Try.sizeOf145
  v77:=Try.zeroValue145 }
abbrev keys_SortedFunc75_Q (r c c2 b bj:Nat) (m:KV) (zv:Value) (zs0:Slot) (zs1:Slot) (zs2:Slot) (zs3:Slot) (zs4:Slot):Prop:= ∃zx:Row,(KeysOf .i64 m (vals zx))/\zv=sv zx/\zs0=bk c #[.map (some r)] 73/\zs1=(mo r m)/\zs2=bk c2 #[pp b 0] 37/\zs3= .blk b (.cells #[.map (some r),pp bj 0, .func (.func 13) #[] #[]] 75 (0,0))/\zs4=(ss 3 zx)/\True
set_option maxRecDepth 100000 in
theorem keys_SortedFunc75_vc (r c c2 b bj:Nat) (m:KV):codeW Try.prog 12 none 2000 none (bodyOf Try.f50) (.reg [S0] (.reg [S0, .callw [0,1] [0,1,40] keys_Collect75_C,S0] (.reg [S0,S0, .callw [40,2,3] [40,2,3] (fun vs hs=>⟨Row,fun _=>undef,fun zx=> [ss 3 zx,sarg hs 1,sarg hs 2],fun zx=>sv zx=varg vs 1/\(vals zx).Perm (rvals (varg vs 1) (sarg hs 0))/\SortedBy cmpI (vals zx)⟩)] (.reg [S0,S0] (.done)))))
    (init #[.func (.func 62) #[] #[pp c 0], .func (.func 52) #[] #[pp c2 0]] [bk c #[.map (some r)] 73,(mo r m),bk c2 #[pp b 0] 37, .blk b (.cells #[.map (some r),pp bj 0, .func (.func 13) #[] #[]] 75 (0,0))]) (finW Try.prog Try.f50 [] [0,1,2,3,40] (X:=Row) (fun zx=>sv zx) (fun zx=> [bk c #[.map (some r)] 73,(mo r m),bk c2 #[pp b 0] 37, .blk b (.cells #[.map (some r),pp bj 0, .func (.func 13) #[] #[]] 75 (0,0)),(ss 3 zx)]) (fun zx=>(KeysOf .i64 m (vals zx))))=
    (callQ Try.prog 60 #[.func (.func 62) #[] #[pp c 0]] [bk c #[.map (some r)] 73,(mo r m)] Row (fun zx=>sv zx) (fun zx=> [bk c #[.map (some r)] 73,(mo r m),(ss 3 zx)]) (fun zx=>(vals zx).Perm (m.map (·.1))) (fun x1=>callQ Try.prog 61 #[sv x1, .func (.func 52) #[] #[pp c2 0]] [(ss 3 x1),bk c2 #[pp b 0] 37, .blk b (.cells #[.map (some r),pp bj 0, .func (.func 13) #[] #[]] 75 (0,0))] Row (fun zx=> .tuple #[]) (fun zx=> [(ss 3 zx),bk c2 #[pp b 0] 37, .blk b (.cells #[.map (some r),pp bj 0, .func (.func 13) #[] #[]] 75 (0,0))]) (fun zx=>sv zx=sv x1/\(vals zx).Perm (rvals (sv x1) (ss 3 x1))/\SortedBy cmpI (vals zx)) (fun x2=>keys_SortedFunc75_Q r c c2 b bj m (sv x1) (bk c #[.map (some r)] 73) (mo r m) (bk c2 #[pp b 0] 37) (Slot.blk b (.cells #[.map (some r),pp bj 0, .func (.func 13) #[] #[]] 75 (0,0))) (ss 3 x2)))):=by kernel_rfl
set_option maxRecDepth 100000 in
theorem keys_SortedFunc75 (r c c2 b bj:Nat) (m:KV) (hk:KOK Try.mk75 m) (hl:m.length<=1048576):CallT Try.prog 50 #[.func (.func 62) #[] #[pp c 0], .func (.func 52) #[] #[pp c2 0]] [bk c #[.map (some r)] 73,(mo r m),bk c2 #[pp b 0] 37, .blk b (.cells #[.map (some r),pp bj 0, .func (.func 13) #[] #[]] 75 (0,0))] Row (fun zx=>sv zx) (fun zx=> [bk c #[.map (some r)] 73,(mo r m),bk c2 #[pp b 0] 37, .blk b (.cells #[.map (some r),pp bj 0, .func (.func 13) #[] #[]] 75 (0,0)),(ss 3 zx)]) (fun zx=>(KeysOf .i64 m (vals zx))):=by
  refine call_of (c:=bodyOf Try.f50) (n:=12) (fn:=Try.f50) Try.mixed Try.func50 (by kernel_rfl) (by kernel_rfl) (by kernel_rfl) 2000 _ [] [0,1,2,3,40] rfl rfl (Eq.mpr (keys_SortedFunc75_vc r c c2 b bj m) ?_)
  refine callQ_mk (keys_Collect75 r c m (by assumption) (by assumption)) (⟨.mk 0 (m.map (·.1)) [],List.Perm.refl _⟩) fun x1 h1=>callQ_mk (sort_row Try.sort61 rfl (enterOK (c:=bodyOf Try.f61) Try.func61 (by kernel_rfl) (by kernel_rfl)) (enterOK (c:=bodyOf Try.f52) Try.func52 (by kernel_rfl) (by kernel_rfl)) swoI (fun w0 h1 h2 x y=>keys_cmp75 w0 c2 b x y h1 h2) (fun v hv=>key_int75 hk (h1.mem_iff.1 hv)) (by have:=h1.length_eq;simp at this;omega)) (sort_wit (x1)) fun x2 h2=> ?_
  rw [rvals_eq] at h2
  exact ⟨x2,keysOf_of hk.once (fun v hv=>key_int75 hk hv) (h2.2.1.trans h1) h2.2.2,h2.1.symm,rfl,rfl,rfl,rfl,rfl,trivial⟩
def Try.clone53_ren:Go.Shelf.Ren:=⟨fun | 5=>53 | 7=>59 | n=>n,fun | 23=>73 | 25=>3 | 3=>3 | 4=>4 | 20=>20 | n=>n,fun | n=>n⟩
theorem Try.clone53:Go.Proofs.SlLaysW.n5 Try.prog Try.clone53_ren:= {
  mixed:=by kernel_rfl
  f5:=⟨Try.f53.name,by decide,Try.func53.trans (congrArg some (by kernel_rfl))⟩
  f7:=Try.func59.trans (congrArg some (by kernel_rfl))
  t4:=Try.underlying4
  a4:=Try.isAgg4
  z4:=Try.sizeOf4
  v4:=Try.zeroValue4
  t20:=Try.underlying20
  a20:=Try.isAgg20
  z20:=Try.sizeOf20
  v20:=Try.zeroValue20
  t23:=Try.underlying73
  a23:=Try.isAgg73
  z23:=Try.sizeOf73
  v23:=Try.zeroValue73 }
def keys_Keys_raw75_C:List Value->List Slot->Ctr:=fun vs hs=>⟨Row,fun zx=>sv zx,fun zx=> [(ss 3 zx)],fun zx=>KeysOf .i64 (skv (sarg hs 1)) (vals zx)⟩
abbrev keys_Keys_raw75_Q (b r bj:Nat) (m:KV) (zv:Value) (zs0:Slot) (zs1:Slot) (zs2:Slot):Prop:= ∃zx:Row,(KeysOf .i64 m (vals zx))/\zv=sv zx/\zs0= .blk b (.cells #[.map (some r),pp bj 0, .func (.func 13) #[] #[]] 75 (0,0))/\zs1=(mo r m)/\zs2=(ss 3 zx)/\True
abbrev keys_Keys_raw75_A (b r bj:Nat) (m:KV) (zF:SF Row):Prop:=zF #[pp b 0] [.blk b (.cells #[.map (some r),pp bj 0, .func (.func 13) #[] #[]] 75 (0,0)),(mo r m)] (fun zx=>sv zx) (fun zx=> [.blk b (.cells #[.map (some r),pp bj 0, .func (.func 13) #[] #[]] 75 (0,0)),(mo r m),(ss 3 zx)]) (fun zx=>(KeysOf .i64 m (vals zx)))
set_option maxRecDepth 100000 in
theorem keys_Keys_raw75_vc (b r bj:Nat) (m:KV):keys_Keys_raw75_A b r bj m (fun za zh zv zu zp=>codeW Try.prog 10 none 2000 none (bodyOf Try.f35) (.reg [.sem [.nw 40],S0] (.reg [.sem [.rd 40],S0,S0, .sem [.rd 0], .callw [] [41] maps_Keys75_C,S0, .callw [41,1,40,0] [41,1,40,0,45] (fun vs hs=>⟨Row,fun zx=>sv zx,fun zx=>hs++ [ss 3 zx],fun zx=>KeysOf .i64 (skv (sarg hs 1)) (vals zx)⟩),S0] (.done)))
    (init za zh) (finW Try.prog Try.f35 [] [0,1,45] (X:=Row) zv zu zp))=
    (∀b1:Nat,rdQ 1 b1 (rdQ 1 b (callQ Try.prog 51 #[.map (some r)] [] Nat (fun zx=> .func (.func 62) #[] #[pp zx 0]) (fun zx=> [bk zx #[.map (some r)] 73]) (fun zx=>True) (fun x2=>callQ Try.prog 50 #[.func (.func 62) #[] #[pp x2 0], .func (.func 52) #[] #[pp b1 0]] [bk x2 #[.map (some r)] 73,(mo r m),bk b1 #[pp b 0] 37, .blk b (.cells #[.map (some r),pp bj 0, .func (.func 13) #[] #[]] 75 (0,0))] Row (fun zx=>sv zx) (fun zx=> [bk x2 #[.map (some r)] 73,(mo r m),bk b1 #[pp b 0] 37, .blk b (.cells #[.map (some r),pp bj 0, .func (.func 13) #[] #[]] 75 (0,0)),(ss 3 zx)]) (fun zx=>KeysOf .i64 m (vals zx)) (fun x3=>keys_Keys_raw75_Q b r bj m (sv x3) (Slot.blk b (.cells #[.map (some r),pp bj 0, .func (.func 13) #[] #[]] 75 (0,0))) (mo r m) (ss 3 x3)))))):=by kernel_rfl
set_option maxRecDepth 100000 in
theorem keys_Keys_raw75 (b r bj:Nat) (m:KV) (hk:KOK Try.mk75 m) (hl:m.length<=1048576):keys_Keys_raw75_A b r bj m (fun za zh zv zu zp=>CallT Try.prog 35 za zh Row zv zu zp):=by
  refine call_of (c:=bodyOf Try.f35) (n:=10) (fn:=Try.f35) Try.mixed Try.func35 (by kernel_rfl) (by kernel_rfl) (by kernel_rfl) 2000 _ [] [0,1,45] rfl rfl (Eq.mpr (keys_Keys_raw75_vc b r bj m) ?_)
  intro b1
  exact rdQ_mk 1 _ (rdQ_mk 1 _ (callQ_mk (maps_Keys75 r) (⟨0,trivial⟩) fun x2 h1=>callQ_mk (keys_SortedFunc75 r x2 b1 b bj m hk hl) (keysOf_wit (fun v hv=>key_int75 hk hv) hk.once) fun x3 h2=>⟨x3,h2,rfl,rfl,rfl,rfl,trivial⟩))
def keys_Keys75_C:List Value->List Slot->Ctr:=fun vs hs=>⟨Row,fun zx=>sv zx,fun zx=> [(ss 3 zx)],fun zx=>KeysOf .i64 (skv (sarg hs 0)) (vals zx)⟩
theorem keys_Keys75 (b bj:Nat) (m:KV) (hi:IntKeys .i64 m) (hl:m.length<=1048576):CallT Try.prog 35 #[.pointer (some ⟨b,0,none⟩)] [(mS Try.mk75 b bj m)] Row (fun zx=>sv zx) (fun zx=> [(mS Try.mk75 b bj m),(ss 3 zx)]) (fun zx=>(KeysOf .i64 m (vals zx))):=by
  refine mS_call (m' :=fun _=>m) (us:=fun x=> [ss 3 x]) (enterOK (c:=bodyOf Try.f35) Try.func35 (by kernel_rfl) (by kernel_rfl)) (fun r hk=> ?_) (fun _ _ h=>h)
  exact keys_Keys_raw75 b r bj m hk hl
def maps_Clone75_C:List Value->List Slot->Ctr:=fun vs hs=>⟨Nat,fun zx=> .map (some zx),fun zx=> [(mo zx (skv (sarg hs 0)))],fun zx=>True⟩
theorem maps_Clone75 (r:Nat) (m:KV) :CallT Try.prog 53 #[.map (some r)] [(mo r m)] Nat (fun zx=> .map (some zx)) (fun zx=> [(mo r m),(mo zx m)]) (fun zx=>(True)):=clone_map Try.clone53 rfl (enterOK (c:=bodyOf Try.f53) Try.func53 (by kernel_rfl) (by kernel_rfl))
abbrev keys_All_raw75_Q (b r bj:Nat) (m:KV) (zv:Value) (zs0:Slot) (zs1:Slot) (zs2:Slot) (zs3:Slot) (zs4:Slot) (zs5:Slot):Prop:= ∃zx:Nat×Nat×Nat×Row,(KeysOf .i64 m (vals zx.2.2.2))/\zv= .func (.func 54) #[] #[pp zx.1 0,pp zx.2.1 0]/\zs0= .blk b (.cells #[.map (some r),pp bj 0, .func (.func 13) #[] #[]] 75 (0,0))/\zs1=(mo r m)/\zs2=bk zx.1 #[sv zx.2.2.2] 82/\zs3=(ss 3 zx.2.2.2)/\zs4=bk zx.2.1 #[.map (some zx.2.2.1)] 73/\zs5=(mo zx.2.2.1 m)/\True
abbrev keys_All_raw75_A (b r bj:Nat) (m:KV) (zF:SF (Nat×Nat×Nat×Row)):Prop:=zF #[pp b 0] [.blk b (.cells #[.map (some r),pp bj 0, .func (.func 13) #[] #[]] 75 (0,0)),(mo r m)] (fun zx=> .func (.func 54) #[] #[pp zx.1 0,pp zx.2.1 0]) (fun zx=> [.blk b (.cells #[.map (some r),pp bj 0, .func (.func 13) #[] #[]] 75 (0,0)),(mo r m),bk zx.1 #[sv zx.2.2.2] 82,(ss 3 zx.2.2.2),bk zx.2.1 #[.map (some zx.2.2.1)] 73,(mo zx.2.2.1 m)]) (fun zx=>(KeysOf .i64 m (vals zx.2.2.2)))
set_option maxRecDepth 100000 in
theorem keys_All_raw75_vc (b r bj:Nat) (m:KV):keys_All_raw75_A b r bj m (fun za zh zv zu zp=>codeW Try.prog 13 none 2000 none (bodyOf Try.f39) (.reg [S0] (.reg [S0, .calln [0,1] [52] keys_Keys_raw75_C,S0,S0,S0, .sem [.rd 0], .calln [1] [53] maps_Clone75_C, .sem [.nw 50], .sem [.nw 51], .specw [50] [50] F_put, .sem [.wr 51]] (.reg [S0,S0] (.done))))
    (init za zh) (finW Try.prog Try.f39 [] [0,1,50,52,51,53] (X:=Nat×Nat×Nat×Row) zv zu zp))=
    (callQ Try.prog 35 #[pp b 0] [.blk b (.cells #[.map (some r),pp bj 0, .func (.func 13) #[] #[]] 75 (0,0)),(mo r m)] Row (fun zx=>sv zx) (fun zx=> [.blk b (.cells #[.map (some r),pp bj 0, .func (.func 13) #[] #[]] 75 (0,0)),(mo r m),(ss 3 zx)]) (fun zx=>KeysOf .i64 m (vals zx)) (fun x1=>rdQ 1 b (callQ Try.prog 53 #[.map (some r)] [(mo r m)] Nat (fun zx=> .map (some zx)) (fun zx=> [(mo r m),(mo zx m)]) (fun zx=>True) (fun x2=> ∀b3:Nat,∀b4:Nat,opQ Try.prog (skS (Instr.storeAt 82 (pp b3 0) (sv x1))) [bk b3 #[.slice none 0 0] 82] Unit (fun _=> .tuple #[]) (fun _=> [bk b3 #[sv x1] 82]) (fun _=>True) (fun _=>rdQ 1 b4 (keys_All_raw75_Q b r bj m (Value.func (.func 54) #[] #[pp b3 0,pp b4 0]) (Slot.blk b (.cells #[.map (some r),pp bj 0, .func (.func 13) #[] #[]] 75 (0,0))) (mo r m) (bk b3 #[sv x1] 82) (ss 3 x1) (bk b4 #[.map (some x2)] 73) (mo x2 m))))))):=by kernel_rfl
set_option maxRecDepth 100000 in
theorem keys_All_raw75 (b r bj:Nat) (m:KV) (hk:KOK Try.mk75 m) (hl:m.length<=1048576):keys_All_raw75_A b r bj m (fun za zh zv zu zp=>CallT Try.prog 39 za zh (Nat×Nat×Nat×Row) zv zu zp):=by
  refine call_of (c:=bodyOf Try.f39) (n:=13) (fn:=Try.f39) Try.mixed Try.func39 (by kernel_rfl) (by kernel_rfl) (by kernel_rfl) 2000 _ [] [0,1,50,52,51,53] rfl rfl (Eq.mpr (keys_All_raw75_vc b r bj m) ?_)
  exact callQ_mk (keys_Keys_raw75 b r bj m (hk) (hl)) (keysOf_wit (fun v hv=>key_int75 hk hv) hk.once) fun x1 h1=>rdQ_mk 1 _ (callQ_mk (maps_Clone75 r m) (⟨0,trivial⟩) fun x2 h2=>fun b3=>fun b4=>opQ_mk (xputv (b:=b3) (cs:= #[.slice none 0 0]) (ty:=82) (te:=82) (fun w=>by kernel_rfl) 0 (sv x1) (cells_sv _) (one_sv _) (by show 0<1;decide)) (⟨(),trivial⟩) fun _ _=>rdQ_mk 1 _ ⟨(b3,b4,x2,x1),h1,rfl,rfl,rfl,rfl,rfl,rfl,rfl,trivial⟩)
def keys_All75_C:List Value->List Slot->Ctr:=fun vs hs=>⟨Nat×Nat×Nat×Row,fun zx=> .func (.func 54) #[] #[pp zx.1 0,pp zx.2.1 0],fun zx=> [bk zx.1 #[sv zx.2.2.2] 82,(ss 3 zx.2.2.2),bk zx.2.1 #[.map (some zx.2.2.1)] 73,(mo zx.2.2.1 (skv (sarg hs 0)))],fun zx=>KeysOf .i64 (skv (sarg hs 0)) (vals zx.2.2.2)⟩
theorem keys_All75 (b bj:Nat) (m:KV) (hi:IntKeys .i64 m) (hl:m.length<=1048576):CallT Try.prog 39 #[.pointer (some ⟨b,0,none⟩)] [(mS Try.mk75 b bj m)] (Nat×Nat×Nat×Row) (fun zx=> .func (.func 54) #[] #[.pointer (some ⟨zx.1,0,none⟩), .pointer (some ⟨zx.2.1,0,none⟩)]) (fun zx=> [(mS Try.mk75 b bj m), .blk zx.1 (.cells #[sv zx.2.2.2] 82 (0,0)),(ss 3 zx.2.2.2), .blk zx.2.1 (.cells #[.map (some zx.2.2.1)] 73 (0,0)),(mo zx.2.2.1 m)]) (fun zx=>(KeysOf .i64 m (vals zx.2.2.2))):=by
  refine mS_call (m' :=fun _=>m) (us:=fun x:Nat×Nat×Nat×Row=> [.blk x.1 (.cells #[sv x.2.2.2] 82 (0,0)),(ss 3 x.2.2.2), .blk x.2.1 (.cells #[.map (some x.2.2.1)] 73 (0,0)),(mo x.2.2.1 m)]) (enterOK (c:=bodyOf Try.f39) Try.func39 (by kernel_rfl) (by kernel_rfl)) (fun r hk=> ?_) (fun _ _ h=>h)
  exact keys_All_raw75 b r bj m hk hl
abbrev keys_AllX0_75_Q (l c1 c2 n:Nat) (x:Rw) (m:KV) (T:Nat->Slot) (S:Slot) (zv:Value) (zs0:Slot) (zs1:Slot) (zs2:Slot) (zs3:Slot) (zs4:Slot):Prop:= ∃zx:Bool,(True)/\zv= .tuple #[]/\zs0=bk c1 #[sv x] 82/\zs1=(ss 3 x)/\zs2=bk c2 #[.map (some n)] 73/\zs3=(mo n m)/\zs4=(bif zx then T (vals x).length else S)/\True
set_option maxRecDepth 100000 in
theorem keys_AllX0_75_vc (l c1 c2 n:Nat) (x:Rw) (m:KV) (T:Nat->Slot) (S:Slot):codeW Try.prog 20 none 2000 none (bodyOf Try.f54) (.reg [.sem [.rd 0], .eq (f_len),S0] (.inv Nat (fun zx=> [(0, .func (.yield l) #[] #[]),(1,pp c1 0),(2,pp c2 0),(6,sv x),(7, .int .i64 ((vlen (sv x):Nat):Int)),(8, .int .i64 ((zx:Nat):Int))]) (fun zx=> [(0,bk c1 #[sv x] 82),(1,(ss 3 x)),(2,bk c2 #[.map (some n)] 73),(3,(mo n m)),(4,(T zx))]) (fun zx=>zx<=(vals x).length) (fun zx=>(vals x).length - zx) (fun x1=> .reg [S0] (.cond (.reg [.eq (f_idx), .specr [1] (fun _ hs=>⟨Unit,fun _=>((vals x).getD (Int.toNat ((x1:Nat):Int)) undef),fun _=>hs,fun _=>True⟩),S0] (.reg [S0,S0, .sem [.rd 2],S0, .specr [3] (fun _ hs=>⟨Unit,fun _=>((mget m (((vals x).getD (Int.toNat ((x1:Nat):Int)) undef))).getD (Value.int .i64 0)),fun _=>hs,fun _=>True⟩), .callw [4] [4] (fun _ _=>⟨Bool,fun b=> .bool b,fun b=> [bif b then T (x1+1) else S],fun _=>True⟩),S0] (.cond (.done) (.reg [S0,S0] (.done))))) (.done)))))
    (init #[.func (.yield l) #[] #[],pp c1 0,pp c2 0] [bk c1 #[sv x] 82,(ss 3 x),bk c2 #[.map (some n)] 73,(mo n m),(T 0)]) (finW Try.prog Try.f54 [] [0,1,2,3,4] (X:=Bool) (fun zx=> .tuple #[]) (fun zx=> [bk c1 #[sv x] 82,(ss 3 x),bk c2 #[.map (some n)] 73,(mo n m),(bif zx then T (vals x).length else S)]) (fun zx=>(True)))=
    (rdQ 1 c1 ((PureRun Try.prog (vS (Builtin.len_ #[82] 3 #[sv x])) (.int .i64 ((vlen (sv x):Nat):Int)))/\(∃zx:Nat,(zx<=(vals x).length)/\Value.func (.yield l) #[] #[]= .func (.yield l) #[] #[]/\pp c1 0=pp c1 0/\pp c2 0=pp c2 0/\sv x=sv x/\Value.int .i64 ((vlen (sv x):Nat):Int)= .int .i64 ((vlen (sv x):Nat):Int)/\Value.int .i64 0= .int .i64 ((zx:Nat):Int)/\bk c1 #[sv x] 82=bk c1 #[sv x] 82/\(ss 3 x)=(ss 3 x)/\bk c2 #[.map (some n)] 73=bk c2 #[.map (some n)] 73/\(mo n m)=(mo n m)/\(T 0)=(T zx)/\True)/\ ∀x1:Nat,∀jx1:Nat->Value,(x1<=(vals x).length)->((decide (((x1:Nat):Int)<((vlen (sv x):Nat):Int)))=true->(PureRun Try.prog (vS (Instr.indexAt 82 (sv x) (.int .i64 ((x1:Nat):Int)))) (.pointer (some ⟨(vblk (sv x)),(Int.toNat ((x1:Nat):Int)),none⟩)))/\opQr Try.prog (vS (Instr.loadAt 3 (.pointer (some ⟨(vblk (sv x)),(Int.toNat ((x1:Nat):Int)),none⟩)))) [(ss 3 x)] Unit (fun _=>((vals x).getD (Int.toNat ((x1:Nat):Int)) undef)) (fun _=>True) (fun _=>rdQ 1 c2 (opQr Try.prog (vS (Instr.lookup 73 (.map (some n)) (((vals x).getD (Int.toNat ((x1:Nat):Int)) undef)) false)) [(mo n m)] Unit (fun _=>((mget m (((vals x).getD (Int.toNat ((x1:Nat):Int)) undef))).getD (Value.int .i64 0))) (fun _=>True) (fun _=>rndQ Try.prog l #[((vals x).getD (Int.toNat ((x1:Nat):Int)) undef),((mget m (((vals x).getD (Int.toNat ((x1:Nat):Int)) undef))).getD (Value.int .i64 0))] [(T x1)] Bool (fun zx=> .bool zx) (fun zx=> [(bif zx then T (x1+1) else S)]) (fun zx=>True) (fun x2=>((!x2)=true->keys_AllX0_75_Q l c1 c2 n x m T S (Value.tuple #[]) (bk c1 #[sv x] 82) (ss 3 x) (bk c2 #[.map (some n)] 73) (mo n m) (bif x2 then T (x1+1) else S))/\((!x2)=false-> ∃zy:Nat,(zy<=(vals x).length)/\(vals x).length - zy<(vals x).length - x1/\Value.func (.yield l) #[] #[]= .func (.yield l) #[] #[]/\pp c1 0=pp c1 0/\pp c2 0=pp c2 0/\sv x=sv x/\Value.int .i64 ((vlen (sv x):Nat):Int)= .int .i64 ((vlen (sv x):Nat):Int)/\Value.int .i64 (IntKind.i64.wrap (((x1:Nat):Int)+1))= .int .i64 ((zy:Nat):Int)/\bk c1 #[sv x] 82=bk c1 #[sv x] 82/\(ss 3 x)=(ss 3 x)/\bk c2 #[.map (some n)] 73=bk c2 #[.map (some n)] 73/\(mo n m)=(mo n m)/\(bif x2 then T (x1+1) else S)=(T zy)/\True))))))/\((decide (((x1:Nat):Int)<((vlen (sv x):Nat):Int)))=false->keys_AllX0_75_Q l c1 c2 n x m T S (Value.tuple #[]) (bk c1 #[sv x] 82) (ss 3 x) (bk c2 #[.map (some n)] 73) (mo n m) (T x1)))):=by kernel_rfl
set_option maxRecDepth 100000 in
theorem keys_AllX0_75 (l c1 c2 n:Nat) (x:Rw) (m:KV) (T:Nat->Slot) (S:Slot) (hk:KOK Try.mk75 m) (hl:m.length<=1048576) (hx:KeysOf .i64 m (vals x)) (hT: ∀i,i<(vals x).length->RoundT Try.prog l #[(vals x).getD i undef,(mget m ((vals x).getD i undef)).getD (Value.int .i64 0)] [T i] Bool (fun b=> .bool b) (fun b=> [bif b then T (i+1) else S]) (fun _=>True)):CallT Try.prog 54 #[.func (.yield l) #[] #[],pp c1 0,pp c2 0] [bk c1 #[sv x] 82,(ss 3 x),bk c2 #[.map (some n)] 73,(mo n m),(T 0)] Bool (fun zx=> .tuple #[]) (fun zx=> [bk c1 #[sv x] 82,(ss 3 x),bk c2 #[.map (some n)] 73,(mo n m),(bif zx then T (vals x).length else S)]) (fun zx=>(True)):=by
  refine call_of (c:=bodyOf Try.f54) (n:=20) (fn:=Try.f54) Try.mixed Try.func54 (by kernel_rfl) (by kernel_rfl) (by kernel_rfl) 2000 _ [] [0,1,2,3,4] rfl rfl (Eq.mpr (keys_AllX0_75_vc l c1 c2 n x m T S) ?_)
  have hL:(vals x).length<=1048576:=by have:=hx.1.length_eq;simp at this;omega
  refine rdQ_mk 1 _ ⟨xlen Try.sl82 3 x,⟨?_,fun x1 jx1 h1=> ?_⟩⟩
  · exact ⟨0,Nat.zero_le _,rfl,rfl,rfl,rfl,rfl,rfl,rfl,rfl,rfl,rfl,rfl,trivial⟩
  have hlen:=vlen_sv x
  refine ⟨fun h2=> ?_,fun h2=> ?_⟩
  · refine ⟨xidx Try.sl82 x .i64 ((x1:Nat):Int) (by omega) (by have:=(ilt_of hlen h2);omega),opQr_mk (xget x 3 (fun w=>by kernel_rfl) (Int.toNat ((x1:Nat):Int)) _ (getD_some (by have:=(ilt_of hlen h2);omega))) (⟨(),trivial⟩) fun _ _=>rdQ_mk 1 _ (opQr_mk (xlookup1 Try.kl75.tm hk.keys (hx.2.2 _ (getD_mem (by have:=(ilt_of hlen h2);omega)))) (⟨(),trivial⟩) fun _ _=>rndQ_mk (hT x1 (ilt_of hlen h2)) (⟨true,trivial⟩) fun x2 h3=>⟨fun h4=> ?_,fun h4=> ?_⟩)⟩
    · have hb:x2=false:=by simpa using h4
      exact ⟨false,trivial,rfl,rfl,rfl,rfl,rfl,by rw [hb];rfl,trivial⟩
    have hb:x2=true:=by simpa using h4
    simp only [decide_eq_true_eq] at h2
    exact ⟨x1+1,by omega,by omega,rfl,rfl,rfl,rfl,rfl,congrArg (Value.int .i64) (wrap_succ (n:=x1) (N:=(vals x).length) (by omega) (by omega)),rfl,rfl,rfl,rfl,by rw [hb];rfl,trivial⟩
  unfold keys_AllX0_75_Q
  simp only [decide_eq_false_iff_not] at h2
  have he:x1=(vals x).length:=by omega
  rw [he]
  exact ⟨true,trivial,rfl,rfl,rfl,rfl,rfl,rfl,trivial⟩
theorem keys_AllX75 (c1 c2 n:Nat) (x:Rw) (m:KV) (hk:KOK Try.mk75 m) (hl:m.length<=1048576) (hx:KeysOf .i64 m (vals x)):Iter Try.prog 54 #[.pointer (some ⟨c1,0,none⟩), .pointer (some ⟨c2,0,none⟩)] [.blk c1 (.cells #[sv x] 82 (0,0)),(ss 3 x), .blk c2 (.cells #[.map (some n)] 73 (0,0)),(mo n m)] (vals x).length (fun i=> #[(vals x).getD i undef,(mget m ((vals x).getD i undef)).getD (Value.int .i64 0)]):=fun l T S hT=>keys_AllX0_75 l c1 c2 n x m T S hk hl hx hT
noncomputable def Try.rfA18:Code:=((rfs (bodyOf Try.f18)).getD 0 (.skip, .skip)).1
noncomputable def Try.rfB18:Code:=((rfs (bodyOf Try.f18)).getD 0 (.skip, .skip)).2
abbrev slices_Backward_1_Q (l:Nat) (rec:Loop) (row:Rw) (m c:Nat) (T:Nat->List Slot) (zv:Value) (zs0:Slot) (zs1:Slot) (zs2:Slot):Prop:= ∃_:Unit,(True)/\zv= .tuple #[]/\zs0=(loopB l rec)/\zs1=(ss 1 row)/\zs2=(bunL (T 0))/\True
set_option maxRecDepth 100000 in
theorem slices_Backward_1_vc (l:Nat) (rec:Loop) (row:Rw) (m c:Nat) (T:Nat->List Slot):codeW Try.prog 19 none 2000 none (bodyOf Try.f49) (.reg [.sem [.rd 2], .eq (f_len), .gen [] (fun vs=>Sx.one (.int .i64 (ci (varg vs 0) - ci (varg vs 1))) vs),S0] (.inv Nat (fun zx=> [(0, .func (.yield l) #[] #[]),(1,pp c 0),(3, .int .i64 (((zx:Nat):Int) - 1))]) (fun zx=> [(0,(loopB l rec)),(1,(ss 1 row)),(2,bk c #[vdrop (sv row) m] 28),(3,(bunL (T zx)))]) (fun zx=>zx<=vlen (vdrop (sv row) m)) (fun zx=>zx) (fun x1=> .reg [S0,S0] (.cond (.reg [S0,S0, .sem [.rd 2],S0, .eq (fun _=> .pointer (some ⟨(vblk (sv row)),(m+Int.toNat (((x1:Nat):Int) - 1)),none⟩)), .specr [1] (fun _ hs=>⟨Unit,fun _=>((vals row).getD (m+Int.toNat (((x1:Nat):Int) - 1)) undef),fun _=>hs,fun _=>True⟩), .callw [0,3] [0,3] (fun _ _=>⟨Unit,fun _=> .bool true,fun _=> [(loopB l rec),(bunL (T (x1 - 1)))],fun _=>True⟩),S0] (.condF (.reg [S0, .gen [] (fun vs=>Sx.one (.int .i64 (ci (varg vs 0) - ci (varg vs 1))) vs),S0] (.done)))) (.done)))))
    (init #[.func (.yield l) #[] #[],pp c 0] [(loopB l rec),(ss 1 row),bk c #[vdrop (sv row) m] 28,(bunL (T (vlen (vdrop (sv row) m))))]) (finW Try.prog Try.f49 [] [0,1,3] (X:=Unit) (fun _=> .tuple #[]) (fun _=> [(loopB l rec),(ss 1 row),(bunL (T 0))]) (fun _=>True))=
    (rdQ 1 c ((PureRun Try.prog (vS (Builtin.len_ #[28] 3 #[vdrop (sv row) m])) (.int .i64 ((vlen (vdrop (sv row) m):Nat):Int)))/\(∃_:Unit,True/\Value.int .i64 (IntKind.i64.wrap (((vlen (vdrop (sv row) m):Nat):Int) - 1))= .int .i64 (((vlen (vdrop (sv row) m):Nat):Int) - 1))/\ ∀_:Unit,(True)->(∃zx:Nat,(zx<=vlen (vdrop (sv row) m))/\Value.func (.yield l) #[] #[]= .func (.yield l) #[] #[]/\pp c 0=pp c 0/\Value.int .i64 (((vlen (vdrop (sv row) m):Nat):Int) - 1)= .int .i64 (((zx:Nat):Int) - 1)/\(loopB l rec)=(loopB l rec)/\(ss 1 row)=(ss 1 row)/\bk c #[vdrop (sv row) m] 28=bk c #[vdrop (sv row) m] 28/\(bunL (T (vlen (vdrop (sv row) m))))=(bunL (T zx))/\True)/\ ∀x1:Nat,∀jx1:Nat->Value,(x1<=vlen (vdrop (sv row) m))->((decide ((((x1:Nat):Int) - 1)≥(0:Int)))=true->rdQ 1 c ((PureRun Try.prog (vS (Instr.indexAt 28 (vdrop (sv row) m) (.int .i64 (((x1:Nat):Int) - 1)))) (.pointer (some ⟨(vblk (sv row)),(m+Int.toNat (((x1:Nat):Int) - 1)),none⟩)))/\opQr Try.prog (vS (Instr.loadAt 1 (.pointer (some ⟨(vblk (sv row)),(m+Int.toNat (((x1:Nat):Int) - 1)),none⟩)))) [(ss 1 row)] Unit (fun _=>((vals row).getD (m+Int.toNat (((x1:Nat):Int) - 1)) undef)) (fun _=>True) (fun _=>rndQ Try.prog l #[.int .i64 (((x1:Nat):Int) - 1),((vals row).getD (m+Int.toNat (((x1:Nat):Int) - 1)) undef)] [(loopB l rec),(bunL (T x1))] Unit (fun _=> .bool true) (fun _=> [(loopB l rec),(bunL (T (x1 - 1)))]) (fun _=>True) (fun _=>(false=false)/\(∃_:Unit,True/\Value.int .i64 (IntKind.i64.wrap ((((x1:Nat):Int) - 1) - 1))= .int .i64 ((((x1:Nat):Int) - 1) - 1))/\ ∀_:Unit,(True)-> ∃zy:Nat,(zy<=vlen (vdrop (sv row) m))/\zy<x1/\Value.func (.yield l) #[] #[]= .func (.yield l) #[] #[]/\pp c 0=pp c 0/\Value.int .i64 ((((x1:Nat):Int) - 1) - 1)= .int .i64 (((zy:Nat):Int) - 1)/\(loopB l rec)=(loopB l rec)/\(ss 1 row)=(ss 1 row)/\bk c #[vdrop (sv row) m] 28=bk c #[vdrop (sv row) m] 28/\(bunL (T (x1 - 1)))=(bunL (T zy))/\True))))/\((decide ((((x1:Nat):Int) - 1)≥(0:Int)))=false->slices_Backward_1_Q l rec row m c T (Value.tuple #[]) (loopB l rec) (ss 1 row) (bunL (T x1))))):=by kernel_rfl
set_option maxRecDepth 100000 in
theorem slices_Backward_1 (l:Nat) (rec:Loop) (row:Rw) (m c:Nat) (T:Nat->List Slot) (hm:m<=(vals row).length) (hl:(vals row).length<=1073741824) (hT: ∀x,0<x->x<=vlen (vdrop (sv row) m)->RoundT Try.prog l #[.int .i64 (((x:Nat):Int) - 1),(vals row).getD (m+Int.toNat (((x:Nat):Int) - 1)) undef] [loopB l rec,bunL (T x)] Unit (fun _=> .bool true) (fun _=> [loopB l rec,bunL (T (x - 1))]) (fun _=>True)):CallT Try.prog 49 #[.func (.yield l) #[] #[],pp c 0] [(loopB l rec),(ss 1 row),bk c #[vdrop (sv row) m] 28,(bunL (T (vlen (vdrop (sv row) m))))] Unit (fun _=> .tuple #[]) (fun _=> [(loopB l rec),(ss 1 row),(bunL (T 0))]) (fun _=>True):=by
  refine call_of (c:=bodyOf Try.f49) (n:=19) (fn:=Try.f49) Try.mixed Try.func49 (by kernel_rfl) (by kernel_rfl) (by kernel_rfl) 2000 _ [] [0,1,3] rfl rfl (Eq.mpr (slices_Backward_1_vc l rec row m c T) ?_)
  have hv0:=vlen_drop row m
  refine rdQ_mk 1 _ ⟨xdlen Try.sl28 3 row m,⟨(),trivial,congrArg (Value.int .i64) (wrap_i64 _ (by first | omega | ((try simp only [decide_eq_true_eq,decide_eq_false_iff_not,gt_iff_lt,ge_iff_le,Int.not_lt,Int.not_le] at *);omega)) (by first | omega | ((try simp only [decide_eq_true_eq,decide_eq_false_iff_not,gt_iff_lt,ge_iff_le,Int.not_lt,Int.not_le] at *);omega)))⟩,fun _=>fun _=>⟨?_,fun x1 jx1 h1=> ?_⟩⟩
  · exact ⟨vlen (vdrop (sv row) m),Nat.le_refl _,rfl,rfl,rfl,rfl,rfl,rfl,rfl,trivial⟩
  have hv:=vlen_drop row m
  refine ⟨fun h2=> ?_,fun h2=> ?_⟩
  · refine rdQ_mk 1 _ ⟨xdidx Try.sl28 row m .i64 (((x1:Nat):Int) - 1) (by (try simp only [decide_eq_true_eq,decide_eq_false_iff_not,gt_iff_lt,ge_iff_le,Int.not_lt,Int.not_le] at *);omega) (by (try simp only [decide_eq_true_eq,decide_eq_false_iff_not,gt_iff_lt,ge_iff_le,Int.not_lt,Int.not_le] at *);omega),opQr_mk (xget row 1 (fun w=>by kernel_rfl) (m+Int.toNat (((x1:Nat):Int) - 1)) _ (getD_some (by (try simp only [decide_eq_true_eq,decide_eq_false_iff_not,gt_iff_lt,ge_iff_le,Int.not_lt,Int.not_le] at *);omega))) (⟨(),trivial⟩) fun _ _=>rndQ_mk (hT x1 (by (try simp only [decide_eq_true_eq,decide_eq_false_iff_not,gt_iff_lt,ge_iff_le,Int.not_lt,Int.not_le] at *);omega) h1) (⟨(),trivial⟩) fun _ _=>⟨rfl,⟨⟨(),trivial,congrArg (Value.int .i64) (wrap_i64 _ (by first | omega | ((try simp only [decide_eq_true_eq,decide_eq_false_iff_not,gt_iff_lt,ge_iff_le,Int.not_lt,Int.not_le] at *);omega)) (by first | omega | ((try simp only [decide_eq_true_eq,decide_eq_false_iff_not,gt_iff_lt,ge_iff_le,Int.not_lt,Int.not_le] at *);omega)))⟩,fun _=>fun _=> ?_⟩⟩⟩
    have hx0:0<x1:=by (try simp only [decide_eq_true_eq,decide_eq_false_iff_not,gt_iff_lt,ge_iff_le,Int.not_lt,Int.not_le] at *);omega
    exact ⟨x1 - 1,by omega,by omega,rfl,rfl,congrArg (Value.int .i64) (by omega),rfl,rfl,rfl,rfl,trivial⟩
  exact ⟨(),trivial,rfl,rfl,rfl,congrArg (fun k=>bunL (T k)) (by (try simp only [decide_eq_true_eq,decide_eq_false_iff_not,gt_iff_lt,ge_iff_le,Int.not_lt,Int.not_le] at *);omega),trivial⟩
def slices_Backward_C:List Value->List Slot->Ctr:=fun vs hs=>⟨Nat,fun zx=> .func (.func 49) #[] #[pp zx 0],fun zx=> [bk zx #[(varg vs 1)] 28],fun zx=>True⟩
abbrev slices_Backward_Q (v:Value) (zv:Value) (zs0:Slot):Prop:= ∃zx:Nat,(True)/\zv= .func (.func 49) #[] #[pp zx 0]/\zs0=bk zx #[v] 28/\True
abbrev slices_Backward_A (v:Value) (zF:SF Nat):Prop:=zF #[v] [] (fun zx=> .func (.func 49) #[] #[pp zx 0]) (fun zx=> [bk zx #[v] 28]) (fun zx=>(True))
set_option maxRecDepth 100000 in
theorem slices_Backward_vc (v:Value):slices_Backward_A v (fun za zh zv zu zp=>codeW Try.prog 4 none 2000 none (bodyOf Try.f34) (.reg [.sem [.nw 20],S0] (.reg [S0,S0] (.done)))
    (init za zh) (finW Try.prog Try.f34 [] [20] (X:=Nat) zv zu zp))=
    (∀b1:Nat,slices_Backward_Q v (Value.func (.func 49) #[] #[pp b1 0]) (Slot.blk b1 (.cells ((v).cells) 28 (0,0)))):=by kernel_rfl
set_option maxRecDepth 100000 in
theorem slices_Backward (v:Value) (hv:v.cells= #[v]):slices_Backward_A v (fun za zh zv zu zp=>CallT Try.prog 34 za zh Nat zv zu zp):=by
  refine call_of (c:=bodyOf Try.f34) (n:=4) (fn:=Try.f34) Try.mixed Try.func34 (by kernel_rfl) (by kernel_rfl) (by kernel_rfl) 2000 _ [] [20] rfl rfl (Eq.mpr (slices_Backward_vc v) ?_)
  intro b1
  exact ⟨b1,trivial,rfl,congrArg (fun q=>Slot.blk b1 (.cells q 28 (0,0))) hv,trivial⟩
abbrev slices_Backward_K (v:Value) (KK:Nat->Prop):Prop:=slices_Backward_A v (fun za zh zv zu zp=>callQ Try.prog 34 za zh Nat zv zu zp KK)
theorem slices_Backward_m (v:Value) {KK:Nat->Prop} (kont: ∀zx:Nat,(True)->KK zx) (hv:v.cells= #[v]):slices_Backward_K v KK:=callQ_mk (slices_Backward v hv) (⟨0,trivial⟩) fun zx hz=>by
  exact kont zx hz
abbrev stage_Back_raw_Q (bj:Nat) (row:Rw) (mark:Int) (T:Nat->List Slot) (zv:Value) (zs0:Slot) (zs1:Slot) (zs2:Slot):Prop:= ∃_:Unit,(True)/\zv= .bool true/\zs0=bk bj #[(vtake (sv row) (Int.toNat mark))] 30/\zs1=(ss 1 row)/\zs2=(bunL (T 0))/\True
set_option maxRecDepth 100000 in
theorem stage_Back_raw_vc (bj:Nat) (row:Rw) (mark:Int) (T:Nat->List Slot):codeW Try.prog 38 none 2000 none (bodyOf Try.f18) (.reg [S0] (.reg [S0, .gen [] (Sx.one (.bool false)),S0,S0,S0,S0,S0, .sem [.rd 0], .eq (f_len), .gen [] (Sx.one (.bool false)),S0] (.condF (.reg [S0,S0,S0, .sem [.rd 0],S0, .eq (fun _=>vdrop (sv row) (Int.toNat mark)), .callw [] [3] slices_Backward_C] (.rf [24] [1,3,2] [50,1,2] (fun _ hs=>⟨Unit,fun _=>undef,fun _=> [(ss 1 row),(bunL (T 0))],fun _=>True⟩) (.reg [S0,S0,S0,S0, .sem [.rd 0],S0, .eq (f_take),S0,S0, .specw [0] [0] F_put] (.reg [S0] (.done))))))))
    (init #[pp bj 0, .int .i64 mark] [bk bj #[sv row] 30,(ss 1 row),(bunL (T (vlen (vdrop (sv row) (Int.toNat mark)))))]) (finM Try.prog Try.f18 [] [0,1,2] 50 (X:=Unit) (fun _=> .bool true) (fun _=> [bk bj #[(vtake (sv row) (Int.toNat mark))] 30,(ss 1 row),(bunL (T 0))]) (fun _=>True))=
    ((∃_:Unit,True/\Value.bool (decide (mark<(0:Int)))= .bool false)/\ ∀_:Unit,(True)->false=false/\false=false/\false=false/\false=false/\false=false/\rdQ 1 bj (false=false/\(PureRun Try.prog (vS (Builtin.len_ #[28] 3 #[sv row])) (.int .i64 ((vlen (sv row):Nat):Int)))/\false=false/\(∃_:Unit,True/\Value.bool (decide (mark>((vlen (sv row):Nat):Int)))= .bool false)/\ ∀_:Unit,(True)->(false=false)/\rdQ 1 bj ((PureRun Try.prog (vS (Instr.sliceAt 28 (sv row) (some (.int .i64 mark)) none none)) (vdrop (sv row) (Int.toNat mark)))/\slices_Backward_K (vdrop (sv row) (Int.toNat mark)) (fun x1=>(∀fr' :Nat->Value,fr' 24=Value.func (.func 49) #[] #[pp x1 0]->RangeT Try.prog 38 (Operand.tmp 24) #[25,26] Try.rfA18 Try.rfB18 fr' [(ss 1 row),bk x1 #[(vdrop (sv row) (Int.toNat mark))] 28,(bunL (T (vlen (vdrop (sv row) (Int.toNat mark)))))] Unit (fun _=> [(ss 1 row),(bunL (T 0))]) (fun _=>True))/\(∃_:Unit,True)/\ ∀ (d2:Nat) (_:Unit),(True)->rdQ 1 bj ((PureRun Try.prog (vS (Instr.sliceAt 28 (sv row) none (some (.int .i64 mark)) none)) ((vtake (sv row) (Int.toNat mark))))/\opQ Try.prog (skS (Instr.storeAt 28 (pp bj 0) ((vtake (sv row) (Int.toNat mark))))) [bk bj #[sv row] 30] Unit (fun _=> .tuple #[]) (fun _=> [bk bj #[(vtake (sv row) (Int.toNat mark))] 30]) (fun _=>True) (fun _=>Slot.blk d2 (.deferred (some []))= .blk d2 (.deferred (some []))/\stage_Back_raw_Q bj row mark T (Value.bool true) (bk bj #[(vtake (sv row) (Int.toNat mark))] 30) (ss 1 row) (bunL (T 0)))))))):=by kernel_rfl
set_option maxRecDepth 100000 in
theorem stage_Back_raw (bj:Nat) (row:Rw) (mark:Int) (T:Nat->List Slot) (h0:0<=mark) (hm:mark<=((vals row).length:Nat)) (hl:(vals row).length<=1073741824) (hT: ∀ (l D:Nat) (fn:FuncId) (tmps:Array Value),tmps.size=38-> ∀x,0<x->x<=vlen (vdrop (sv row) (Int.toNat mark))->RoundT Try.prog l #[.int .i64 (((x:Nat):Int) - 1),(vals row).getD (Int.toNat mark+Int.toNat (((x:Nat):Int) - 1)) undef] [loopB l (recOf fn tmps #[25,26] Try.rfA18 Try.rfB18 D),bunL (T x)] Unit (fun _=> .bool true) (fun _=> [loopB l (recOf fn tmps #[25,26] Try.rfA18 Try.rfB18 D),bunL (T (x - 1))]) (fun _=>True)):CallT Try.prog 18 #[pp bj 0, .int .i64 mark] [bk bj #[sv row] 30,(ss 1 row),(bunL (T (vlen (vdrop (sv row) (Int.toNat mark)))))] Unit (fun _=> .bool true) (fun _=> [bk bj #[(vtake (sv row) (Int.toNat mark))] 30,(ss 1 row),(bunL (T 0))]) (fun _=>True):=by
  refine call_of_mark (c:=bodyOf Try.f18) (n:=38) (fn:=Try.f18) Try.mixed Try.func18 (by kernel_rfl) (by kernel_rfl) (by kernel_rfl) 2000 _ [] [0,1,2] 50 rfl rfl (Eq.mpr (stage_Back_raw_vc bj row mark T) ?_)
  have hv1:=vlen_sv row
  refine ⟨⟨(),trivial,congrArg Value.bool (decide_eq_false (by omega))⟩,fun _=>fun _=>⟨rfl,rfl,rfl,rfl,rfl,rdQ_mk 1 _ ⟨rfl,xlen Try.sl28 3 row,rfl,⟨(),trivial,congrArg Value.bool (decide_eq_false (by omega))⟩,fun _=>fun _=>⟨rfl,rdQ_mk 1 _ ⟨xdrop Try.sl28 row .i64 mark (by omega) (by omega),slices_Backward_m (vdrop (sv row) (Int.toNat mark)) (fun x1 h1=> ?_) (hv:=cells_vdrop _ _)⟩⟩⟩⟩⟩
  exact ⟨fun fr' h24=>range_of (val:=fun _=>undef) (cap:= #[pp x1 0]) h24 fun l D fn tmps hz _=>slices_Backward_1 l (recOf fn tmps #[25,26] Try.rfA18 Try.rfB18 D) row (Int.toNat mark) x1 T (by omega) hl (hT l D fn tmps hz),⟨(),trivial⟩,fun d2 _ _=>rdQ_mk 1 _ ⟨xtake Try.sl28 row .i64 mark (by omega) (by omega),opQ_mk (xputv (b:=bj) (cs:= #[sv row]) (ty:=30) (te:=28) (fun w=>by kernel_rfl) 0 ((vtake (sv row) (Int.toNat mark))) (cells_vtake _ _) (one_vtake _ _) (by show 0<1;decide)) (⟨(),trivial⟩) fun _ _=>⟨rfl,⟨(),trivial,rfl,rfl,rfl,rfl,trivial⟩⟩⟩⟩
set_option maxRecDepth 100000 in
theorem stage_round_vc (l D:Nat) (fn:FuncId) (tmps:Array Value) (i:Int) (e:Ent) (a:N4) (S1 S0:List Slot) (fr:Nat->Value):roundW Try.prog 38 l 200 Try.rfA18 Try.rfB18 (.reg [.sem []] (.reg [.sem [], .callw [1] [1] (fun _ _=>⟨Unit,fun _=>undef,fun _=> [bunL S0],fun _=>True⟩)] .done)) (recOf fn tmps #[25,26] Try.rfA18 Try.rfB18 D) ⟨putFr fr [(25, .int .i64 i),(26,e.fn a)],ofList (loopB l (recOf fn tmps #[25,26] Try.rfA18 Try.rfB18 D):: [bunL S1]),[]⟩ [1] (fun _:Unit=> [bunL S0]) (fun _=>True)=(loopB l (recOf fn tmps #[25,26] Try.rfA18 Try.rfB18 D)=loopB l (recOf fn tmps #[25,26] Try.rfA18 Try.rfB18 D)/\(CallT Try.prog e.g #[ptr a.1,ptr a.2.1,ptr a.2.2.1,ptr a.2.2.2] [bunL S1] Unit (fun _=>undef) (fun _=> [bunL S0]) (fun _=>True))/\(∃_:Unit,True)/\ ∀_:Unit,True->loopB l { (recOf fn tmps #[25,26] Try.rfA18 Try.rfB18 D) with state:= .busy }=loopB l { (recOf fn tmps #[25,26] Try.rfA18 Try.rfB18 D) with state:= .busy }/\ ∃_:Unit,True/\bunL S0=bunL S0/\True):=by kernel_rfl
theorem stage_round (l D:Nat) (fn:FuncId) (tmps:Array Value) (i:Int) (e:Ent) (a:N4) (S1 S0:List Slot) (hz:tmps.size=38) (hc:CallT Try.prog e.g #[ptr a.1,ptr a.2.1,ptr a.2.2.1,ptr a.2.2.2] [bunL S1] Unit (fun _=>undef) (fun _=> [bunL S0]) (fun _=>True)):RoundT Try.prog l #[.int .i64 i,Ent.fn e a] [loopB l (recOf fn tmps #[25,26] Try.rfA18 Try.rfB18 D),bunL S1] Unit (fun _=> .bool true) (fun _=> [loopB l (recOf fn tmps #[25,26] Try.rfA18 Try.rfB18 D),bunL S0]) (fun _=>True):=
  round_of (n:=38) (fuel:=200) (Hs:= [bunL S1]) (us:=fun _=> [bunL S0]) Try.mixed hz (fun _=>rfl) rfl rfl (.reg [.sem []] (.reg [.sem [], .callw [1] [1] (fun _ _=>⟨Unit,fun _=>undef,fun _=> [bunL S0],fun _=>True⟩)] .done)) [1] rfl (Eq.mpr (stage_round_vc l D fn tmps i e a S1 S0 (fun i=>tmps.getD i undef)) ⟨rfl,hc,⟨(),trivial⟩,fun _ _=>⟨rfl,(),trivial,rfl,trivial⟩⟩)
abbrev stage_undo_raw75_Q (b bj r:Nat) (m:KV) (c0 c1 c2 c3:Nat) (is:Bool) (v k:Int) (zv:Value) (zs0:Slot) (zs1:Slot) (zs2:Slot) (zs3:Slot) (zs4:Slot) (zs5:Slot):Prop:= ∃zx:KV,(zx=bif is then mset m (Value.int .i64 k) (Value.int .i64 v) else mdel m (Value.int .i64 k))/\zv= .tuple #[]/\zs0= .blk b (.cells #[.map (some r),pp bj 0, .func (.func 13) #[] #[]] 75 (0,0))/\zs1=(mo r zx)/\zs2=bk c0 #[.bool is] 4/\zs3=bk c1 #[.int .i64 v] 3/\zs4=bk c2 #[pp b 0] 37/\zs5=bk c3 #[.int .i64 k] 3/\True
set_option maxRecDepth 100000 in
theorem stage_undo_raw75_vc (b bj r:Nat) (m:KV) (c0 c1 c2 c3:Nat) (is:Bool) (v k:Int):codeW Try.prog 16 none 2000 none (bodyOf Try.f48) (.reg [.sem [.rd 2]] (.cond (.reg [.sem [.rd 4],S0,S0, .sem [.rd 0], .sem [.rd 5], .sem [.rd 3], .specw [1] [1] F_upd] (.done)) (.reg [.sem [.rd 4],S0,S0, .sem [.rd 0], .sem [.rd 5], .specw [1] [1] F_del] (.done))))
    (init #[pp c0 0,pp c1 0,pp c2 0,pp c3 0] [.blk b (.cells #[.map (some r),pp bj 0, .func (.func 13) #[] #[]] 75 (0,0)),(mo r m),bk c0 #[.bool is] 4,bk c1 #[.int .i64 v] 3,bk c2 #[pp b 0] 37,bk c3 #[.int .i64 k] 3]) (finW Try.prog Try.f48 [] [0,1,2,3,4,5] (X:=KV) (fun zx=> .tuple #[]) (fun zx=> [.blk b (.cells #[.map (some r),pp bj 0, .func (.func 13) #[] #[]] 75 (0,0)),(mo r zx),bk c0 #[.bool is] 4,bk c1 #[.int .i64 v] 3,bk c2 #[pp b 0] 37,bk c3 #[.int .i64 k] 3]) (fun zx=>(zx=bif is then mset m (Value.int .i64 k) (Value.int .i64 v) else mdel m (Value.int .i64 k))))=
    (rdQ 1 c0 ((is=true->rdQ 1 c2 (rdQ 1 b (rdQ 1 c3 (rdQ 1 c1 (opQ Try.prog (skS (Instr.mapUpdate 73 (.map (some r)) (.int .i64 k) (.int .i64 v))) [(mo r m)] KV (fun zx=> .tuple #[]) (fun zx=> [(mo r zx)]) (fun zx=>zx=mset m (Value.int .i64 k) (Value.int .i64 v)) (fun x1=>stage_undo_raw75_Q b bj r m c0 c1 c2 c3 is v k (Value.tuple #[]) (Slot.blk b (.cells #[.map (some r),pp bj 0, .func (.func 13) #[] #[]] 75 (0,0))) (mo r x1) (bk c0 #[.bool is] 4) (bk c1 #[.int .i64 v] 3) (bk c2 #[pp b 0] 37) (bk c3 #[.int .i64 k] 3)))))))/\(is=false->rdQ 1 c2 (rdQ 1 b (rdQ 1 c3 (opQ Try.prog (vS (Builtin.delete_ #[73,3] 0 #[.map (some r), .int .i64 k])) [(mo r m)] KV (fun zx=> .tuple #[]) (fun zx=> [(mo r zx)]) (fun zx=>zx=mdel m (Value.int .i64 k)) (fun x2=>stage_undo_raw75_Q b bj r m c0 c1 c2 c3 is v k (Value.tuple #[]) (Slot.blk b (.cells #[.map (some r),pp bj 0, .func (.func 13) #[] #[]] 75 (0,0))) (mo r x2) (bk c0 #[.bool is] 4) (bk c1 #[.int .i64 v] 3) (bk c2 #[pp b 0] 37) (bk c3 #[.int .i64 k] 3)))))))):=by kernel_rfl
set_option maxRecDepth 100000 in
theorem stage_undo_raw75 (b bj r:Nat) (m:KV) (c0 c1 c2 c3:Nat) (is:Bool) (v k:Int) (hk:KOK Try.mk75 m):CallT Try.prog 48 #[pp c0 0,pp c1 0,pp c2 0,pp c3 0] [.blk b (.cells #[.map (some r),pp bj 0, .func (.func 13) #[] #[]] 75 (0,0)),(mo r m),bk c0 #[.bool is] 4,bk c1 #[.int .i64 v] 3,bk c2 #[pp b 0] 37,bk c3 #[.int .i64 k] 3] KV (fun zx=> .tuple #[]) (fun zx=> [.blk b (.cells #[.map (some r),pp bj 0, .func (.func 13) #[] #[]] 75 (0,0)),(mo r zx),bk c0 #[.bool is] 4,bk c1 #[.int .i64 v] 3,bk c2 #[pp b 0] 37,bk c3 #[.int .i64 k] 3]) (fun zx=>(zx=bif is then mset m (Value.int .i64 k) (Value.int .i64 v) else mdel m (Value.int .i64 k))):=by
  refine call_of (c:=bodyOf Try.f48) (n:=16) (fn:=Try.f48) Try.mixed Try.func48 (by kernel_rfl) (by kernel_rfl) (by kernel_rfl) 2000 _ [] [0,1,2,3,4,5] rfl rfl (Eq.mpr (stage_undo_raw75_vc b bj r m c0 c1 c2 c3 is v k) ?_)
  refine rdQ_mk 1 _ ⟨fun h1=> ?_,fun h1=> ?_⟩
  · refine rdQ_mk 1 _ (rdQ_mk 1 _ (rdQ_mk 1 _ (rdQ_mk 1 _ (opQ_mk (xupd Try.kl75 hk ⟨_,rfl⟩ (Value.int .i64 v)) (⟨_,rfl⟩) fun x1 h2=> ?_))))
    have hu:=h2
    have his:is=true:=by assumption
    exact ⟨_,by rw [hu,his];rfl,rfl,rfl,rfl,rfl,rfl,rfl,rfl,trivial⟩
  refine rdQ_mk 1 _ (rdQ_mk 1 _ (rdQ_mk 1 _ (opQ_mk (xdel Try.kl75 0 3 hk ⟨_,rfl⟩) (⟨_,rfl⟩) fun x2 h3=> ?_)))
  have hu:=h3
  have his:is=false:=by assumption
  exact ⟨_,by rw [hu,his];rfl,rfl,rfl,rfl,rfl,rfl,rfl,rfl,trivial⟩
theorem Try.eok75 {b bj:Nat} {m0:KV} {k:Int} (h0:KOK Try.mk75 m0):EOK Try.prog bj Try.mk75 (Try.ent75 b m0 (Value.int .i64 k)):=by
  refine ⟨fun a m=> ?_⟩
  cases hg:mget m0 (Value.int .i64 k) with
  | none =>
    rw [show Ent.undo (Try.ent75 b m0 (Value.int .i64 k)) m=(mdel m (Value.int .i64 k)) from by show (match mget m0 (Value.int .i64 k) with | some v=>mset m (Value.int .i64 k) v | none=>mdel m (Value.int .i64 k))=_;rw [hg]]
    have hsl:Ent.sl (Try.ent75 b m0 (Value.int .i64 k)) a= [.blk a.1 (.cells #[.bool false] 4 (0,0)), .blk a.2.1 (.cells #[.int .i64 0] 3 (0,0)), .blk a.2.2.1 (.cells #[.pointer (some ⟨b,0,none⟩)] 37 (0,0)), .blk a.2.2.2 (.cells #[.int .i64 k] 3 (0,0))]:=by
      show ([.blk a.1 (.cells #[.bool (mget m0 (Value.int .i64 k)).isSome] 4 (0,0)), .blk a.2.1 (.cells ((mget m0 (Value.int .i64 k)).getD (.int .i64 0)).cells 3 (0,0)), .blk a.2.2.1 (.cells #[ptr b] 37 (0,0)), .blk a.2.2.2 (.cells ((Value.int .i64 k):Value).cells 3 (0,0))]:List Slot)=_
      rw [hg];rfl
    rw [hsl]
    exact (mS_call (K:=Try.mk75) (b:=b) (bj:=bj) (m:=m) (m' :=fun x:KV=>x) (us:=fun _=> [.blk a.1 (.cells #[.bool false] 4 (0,0)), .blk a.2.1 (.cells #[.int .i64 0] 3 (0,0)), .blk a.2.2.1 (.cells #[.pointer (some ⟨b,0,none⟩)] 37 (0,0)), .blk a.2.2.2 (.cells #[.int .i64 k] 3 (0,0))]) (enterOK (c:=bodyOf Try.f48) Try.func48 (by kernel_rfl) (by kernel_rfl)) (fun r hk=>stage_undo_raw75 b bj r m a.1 a.2.1 a.2.2.1 a.2.2.2 false 0 k hk) (fun x hx hk=>hx▸hk.del _)).exists fun x hx=>⟨(),trivial,rfl,by rw [hx];exact Imp.refl _⟩
  | some w =>
    obtain ⟨v,hv,rfl⟩:=h0.val hg
    rw [show Ent.undo (Try.ent75 b m0 (Value.int .i64 k)) m=(mset m (Value.int .i64 k) (Value.int .i64 v)) from by show (match mget m0 (Value.int .i64 k) with | some v=>mset m (Value.int .i64 k) v | none=>mdel m (Value.int .i64 k))=_;rw [hg]]
    have hsl:Ent.sl (Try.ent75 b m0 (Value.int .i64 k)) a= [.blk a.1 (.cells #[.bool true] 4 (0,0)), .blk a.2.1 (.cells #[.int .i64 v] 3 (0,0)), .blk a.2.2.1 (.cells #[.pointer (some ⟨b,0,none⟩)] 37 (0,0)), .blk a.2.2.2 (.cells #[.int .i64 k] 3 (0,0))]:=by
      show ([.blk a.1 (.cells #[.bool (mget m0 (Value.int .i64 k)).isSome] 4 (0,0)), .blk a.2.1 (.cells ((mget m0 (Value.int .i64 k)).getD (.int .i64 0)).cells 3 (0,0)), .blk a.2.2.1 (.cells #[ptr b] 37 (0,0)), .blk a.2.2.2 (.cells ((Value.int .i64 k):Value).cells 3 (0,0))]:List Slot)=_
      rw [hg];rfl
    rw [hsl]
    exact (mS_call (K:=Try.mk75) (b:=b) (bj:=bj) (m:=m) (m' :=fun x:KV=>x) (us:=fun _=> [.blk a.1 (.cells #[.bool true] 4 (0,0)), .blk a.2.1 (.cells #[.int .i64 v] 3 (0,0)), .blk a.2.2.1 (.cells #[.pointer (some ⟨b,0,none⟩)] 37 (0,0)), .blk a.2.2.2 (.cells #[.int .i64 k] 3 (0,0))]) (enterOK (c:=bodyOf Try.f48) Try.func48 (by kernel_rfl) (by kernel_rfl)) (fun r hk=>stage_undo_raw75 b bj r m a.1 a.2.1 a.2.2.1 a.2.2.2 true v k hk) (fun x hx hk=>hx▸hk.set (⟨_,rfl⟩) ⟨v,hv,rfl⟩)).exists fun x hx=>⟨(),trivial,rfl,by rw [hx];exact Imp.refl _⟩
theorem undo_shape1 {K0:MK} {b0:Nat} {m0:KV} {l:List MS3} (h:l.map (fun x=>(x.1,x.2.1))=([(K0,b0,m0)]:List MS3).map (fun x=>(x.1,x.2.1))): ∃y0,l= [(K0,b0,y0)]:=by
  match l,h with
  | [x0], h =>
    simp only [List.map_cons,List.map_nil,List.cons.injEq,Prod.mk.injEq,and_true] at h
    obtain ⟨p0,q0⟩:=h
    exact ⟨x0.2.2,congrArg (fun z=> [z]) (Prod.ext p0 (Prod.ext q0 rfl))⟩
def stage_Back_75_C:List Value->List Slot->Ctr:=fun vs hs=>⟨KV,fun zx=> .bool true,fun zx=> [(jS Try.jk (vblk (varg vs 1)) (List.take (Int.toNat (ci (varg vs 2))) (sents (sarg hs 0)))),(mS Try.mk75 (snum (sarg hs 1) 0) (vblk (varg vs 1)) zx)],fun zx=>undoAll (List.drop (Int.toNat (ci (varg vs 2))) (sents (sarg hs 0))) [(Try.mk75,(snum (sarg hs 1) 0),(skv (sarg hs 1)))]= [(Try.mk75,(snum (sarg hs 1) 0),zx)]⟩
theorem stage_Back_75 (bj:Nat) (L:List Ent) (mark:Int) (b0:Nat) (m0:KV) (h0:0<=mark) (h1:mark<=((List.length L:Nat):Int)) (hl:List.length L<=1000000) (hE: ∀e∈List.drop (Int.toNat mark) L,∃y∈([(Try.mk75,b0,m0)]:List MS3),y.2.1=e.b/\EOK Try.prog bj y.1 e):CallT Try.prog 18 #[.pointer (some ⟨bj,0,none⟩), .int .i64 mark] [(jS Try.jk bj L),(mS Try.mk75 b0 bj m0)] KV (fun zx=> .bool true) (fun zx=> [(jS Try.jk bj (List.take (Int.toNat mark) L)),(mS Try.mk75 b0 bj zx)]) (fun zx=>(undoAll (List.drop (Int.toNat mark) L) [(Try.mk75,b0,m0)]= [(Try.mk75,b0,zx)])):=by
  have c:=back_of (K:=Try.jk) (bj:=bj) (L:=L) (mark:=mark) (Ms:= [(Try.mk75,b0,m0)]) (enterOK (c:=bodyOf Try.f18) Try.func18 (by kernel_rfl) (by kernel_rfl)) (A:=Try.rfA18) (B:=Try.rfB18) (ps:= #[25,26]) (n:=38) (fun row T h1 h2 h3=>stage_Back_raw bj row mark T h0 h1 h2 h3) (fun l D fn tmps i e a S1 S0 hz hc=>stage_round l D fn tmps i e a S1 S0 hz hc) h0 h1 hl hE
  have hk:=undoAll_ks (List.drop (Int.toNat mark) L) [(Try.mk75,b0,m0)]
  obtain ⟨y0,hu⟩:=undo_shape1 hk
  rw [hu] at c
  exact c.exists fun _ hn=>⟨y0,hu,rfl,Imp.refl _⟩
theorem Try.entOK75 (b:Nat):EntOK b (Try.ent75 b):=⟨fun _ _=>rfl,fun _ _=>rfl,fun _ _=>rfl⟩
theorem Try.intK75:IntK Try.mk75:=⟨fun n=>⟨n,rfl⟩,fun v h=>h,fun n h=>⟨n,h,rfl⟩,fun v h=>h⟩
theorem Try.eoks75 {b bj:Nat} {hs:List KV} {L:List Ent} {m m1:KV} (h:Jr Try.mk75 (Try.ent75 b) hs L m) (n:Nat): ∀e∈List.drop n L,∃y∈([(Try.mk75,b,m1)]:List MS3),y.2.1=e.b/\EOK Try.prog bj y.1 e:=by
  intro e he
  obtain ⟨m0,key,rfl,⟨q,rfl⟩,hk⟩:=h.ent (List.mem_of_mem_drop he)
  exact ⟨_,List.mem_cons_self ..,rfl,Try.eok75 hk⟩
def law12_lives_C:List Value->List Slot->Ctr:=fun vs hs=>⟨Unit,fun _=> .bool true,fun _=>hs,fun _=>True⟩
abbrev law12_lives_Q  (zv:Value) :Prop:= ∃_:Unit,(True)/\zv= .bool true/\True
abbrev law12_lives_A  (zF:SF Unit):Prop:=zF #[] [] (fun _=> .bool true) (fun _=> []) (fun _=>True)
set_option maxRecDepth 100000 in
theorem law12_lives_vc :law12_lives_A  (fun za zh zv zu zp=>codeW Try.prog 35 none 2000 none (bodyOf Try.f11) (.reg [S0] (.reg [.specw [] [20] (F_newj Try.jk)] (.reg [.callw [] [21] stage_New75_C,S0] (.reg [S0,S0] (.condF (.reg [S0, .callw [21,20] [21,20] stage_Set75_C] (.reg [.callr [20] stage_Mark_C,S0] (.reg [S0, .callw [21,20] [21,20] stage_Set75_C] (.reg [S0, .callw [21,20] [21,20] stage_Drop75_C] (.reg [.callw [20,21] [20,21] stage_Back_75_C,S0] (.reg [S0, .callr [21] stage_Get75_C,S0,S0,S0,S0,S0] (.reg [S0, .gen [] (Sx.one (.bool true)),S0,S0,S0,S0,S0, .gen [] (Sx.one (.bool true)),S0,S0,S0,S0,S0] (.done)))))))))))))
    (init za zh) (finW Try.prog Try.f11 [] [] (X:=Unit) zv zu zp))=
    (opQ Try.prog (vS (Instr.alloc 30 true (.tuple #[]))) [] Nat (fun zx=>pp zx 0) (fun zx=> [(jS Try.jk zx ([]))]) (fun zx=>True) (fun x1=>callQ Try.prog 12 #[pp x1 0, .func (.func 13) #[] #[]] [] Nat (fun zx=>pp zx 0) (fun zx=> [(mS Try.mk75 zx x1 ([]))]) (fun zx=>True) (fun x2=>(false=false)/\callQ Try.prog 15 #[pp x2 0, .int .i64 1, .int .i64 5] [(mS Try.mk75 x2 x1 ([])),(jS Try.jk x1 ([]))] (KV×List Ent) (fun zx=> .tuple #[]) (fun zx=> [(mS Try.mk75 x2 x1 zx.1),(jS Try.jk x1 zx.2)]) (fun zx=>zx.1=mset ([]) (Value.int .i64 1) (Value.int .i64 5)/\zx.2=([])++ [(Try.ent75 x2 ([]) (Value.int .i64 1))]) (fun x3=>callQr Try.prog 20 #[pp x1 0] [(jS Try.jk x1 x3.2)] Int (fun zx=> .int .i64 zx) (fun zx=>zx=(((x3.2:List Ent).length:Nat):Int)) (fun x4=>callQ Try.prog 15 #[pp x2 0, .int .i64 1, .int .i64 6] [(mS Try.mk75 x2 x1 x3.1),(jS Try.jk x1 x3.2)] (KV×List Ent) (fun zx=> .tuple #[]) (fun zx=> [(mS Try.mk75 x2 x1 zx.1),(jS Try.jk x1 zx.2)]) (fun zx=>zx.1=mset x3.1 (Value.int .i64 1) (Value.int .i64 6)/\zx.2=x3.2++ [(Try.ent75 x2 x3.1 (Value.int .i64 1))]) (fun x5=>callQ Try.prog 17 #[pp x2 0, .int .i64 1] [(mS Try.mk75 x2 x1 x5.1),(jS Try.jk x1 x5.2)] (KV×List Ent×Bool) (fun zx=> .bool zx.2.2) (fun zx=> [(mS Try.mk75 x2 x1 zx.1),(jS Try.jk x1 zx.2.1)]) (fun zx=>zx.2.2=(mget x5.1 (Value.int .i64 1)).isSome/\zx.1=mdel x5.1 (Value.int .i64 1)/\zx.2.1=if (mget x5.1 (Value.int .i64 1)).isSome then x5.2++ [(Try.ent75 x2 x5.1 (Value.int .i64 1))] else x5.2) (fun x6=>callQ Try.prog 18 #[pp x1 0, .int .i64 1] [(jS Try.jk x1 x6.2.1),(mS Try.mk75 x2 x1 x6.1)] KV (fun zx=> .bool true) (fun zx=> [(jS Try.jk x1 (List.take (Int.toNat (1:Int)) x6.2.1)),(mS Try.mk75 x2 x1 zx)]) (fun zx=>undoAll (List.drop (Int.toNat (1:Int)) x6.2.1) [(Try.mk75,x2,x6.1)]= [(Try.mk75,x2,zx)]) (fun x7=>callQr Try.prog 22 #[pp x2 0, .int .i64 1] [(mS Try.mk75 x2 x1 x7)] (Int×Bool) (fun zx=> .tuple #[.int .i64 zx.1, .bool zx.2]) (fun zx=>zx.1=ci ((mget x7 (Value.int .i64 1)).getD (.int .i64 0))/\zx.2=(mget x7 (Value.int .i64 1)).isSome) (fun x8=>(∃_:Unit,True/\Value.bool (x4==(1:Int))= .bool true)/\ ∀_:Unit,(True)->true=true/\true=true/\true=true/\(∃_:Unit,True/\Value.bool (x8.1==(5:Int))= .bool true)/\ ∀_:Unit,(True)->true=true/\law12_lives_Q  (Value.bool x8.2)))))))))):=by kernel_rfl
set_option maxRecDepth 100000 in
theorem law12_lives  :law12_lives_A  (fun za zh zv zu zp=>CallT Try.prog 11 za zh Unit zv zu zp):=by
  refine call_of (c:=bodyOf Try.f11) (n:=35) (fn:=Try.f11) Try.mixed Try.func11 (by kernel_rfl) (by kernel_rfl) (by kernel_rfl) 2000 _ [] [] rfl rfl (Eq.mpr (law12_lives_vc) ?_)
  refine opQ_mk (xnewj (K:=Try.jk) (Eq.mpr (by kernel_rfl:symW Try.prog (do pure (Next.value (←Instr.alloc 30 true (.tuple #[])))) [.nw 0] (ofList []) (fun nx H _=> ∃b,nx=Next.value (ptr b)/\H=upd (ofList []) 0 (.blk b (.cells #[.slice none 0 0] (JK.tj Try.jk) (0,0))))=(∀b,∃b',Next.value (ptr b)= .value (ptr b')/\upd (ofList []) 0 (.blk b (.cells #[.slice none 0 0] 30 (0,0)))=upd (ofList []) 0 (.blk b' (.cells #[.slice none 0 0] (JK.tj Try.jk) (0,0))))) fun b=>⟨b,rfl,rfl⟩)) (⟨0,trivial⟩) fun x1 h1=>callQ_mk (stage_New75 x1) (⟨0,trivial⟩) fun x2 h2=> ?_
  have J0:Jr Try.mk75 (Try.ent75 x2) [] [] []:=Jr.nil []
  have K0:KOK Try.mk75 []:=KOK.nil
  refine ⟨rfl,callQ_mk (stage_Set75 x2 x1 ([]) ([]) (1:Int) (5:Int) (by decide) (by simp)) (⟨(_,_),rfl,rfl⟩) fun x3 h3=> ?_⟩
  have l1:List.length x3.2=1:=by rw [h3.2];simp
  obtain ⟨J1,K1⟩:=J0.set K0 (Try.intK75.k 1) (Try.intK75.v 5 rfl)
  rw [←h3.1,←h3.2] at J1
  rw [←h3.1] at K1
  have G1:mget x3.1 (iv 1)=some (iv 5):=by rw [h3.1,mget_set,if_pos rfl]
  refine callQr_mk (stage_Mark x1 x3.2) (⟨_,rfl⟩) fun x4 h4=> ?_
  have hM:=h4
  refine callQ_mk (stage_Set75 x2 x1 x3.1 x3.2 (1:Int) (6:Int) (by decide) (by omega)) (⟨(_,_),rfl,rfl⟩) fun x5 h5=> ?_
  have l2:List.length x5.2=2:=by rw [h5.2];simp [l1]
  obtain ⟨J2,K2⟩:=J1.set K1 (Try.intK75.k 1) (Try.intK75.v 6 rfl)
  rw [←h5.1,←h5.2] at J2
  rw [←h5.1] at K2
  have G2:mget x5.1 (iv 1)=some (iv 6):=by rw [h5.1,mget_set,if_pos rfl]
  refine callQ_mk (stage_Drop75 x2 x1 x5.1 x5.2 (1:Int) (by omega)) (⟨(_,_,_),rfl,rfl,rfl⟩) fun x6 h6=> ?_
  obtain ⟨J3,K3⟩:=J2.del K2 (Try.intK75.k 1)
  have hS:(mget x5.1 (iv 1)).isSome=true:=by rw [G2];rfl
  have hD:=h6.2.2
  rw [if_pos hS] at hD
  rw [←h6.2.1,←hD] at J3
  rw [←h6.2.1] at K3
  have l3:List.length x6.2.1=3:=by rw [hD];simp [l2]
  refine callQ_mk (stage_Back_75 x1 x6.2.1 (1:Int) x2 x6.1 (by decide) (by omega) (by omega) (Try.eoks75 J3 _)) ((undo_shape1 (undoAll_ks _ _)).elim fun y0 h=>⟨y0,h⟩) fun x7 h7=> ?_
  have hu:=undoAll_one _ _ _ _ _ h7
  have hB:=(J3.back (Try.entOK75 x2) K3 (n:=1) (h0:=x3.1) (by omega) rfl).2.1
  rw [show (Int.toNat 1)=1 from rfl] at hu
  rw [←hu] at hB
  refine callQr_mk (stage_Get75 x2 x1 x7 (1:Int)) (⟨(_,_),rfl,rfl⟩) fun x8 h8=> ?_
  have hg1:x8.1=5:=by rw [h8.1,hB,G1];rfl
  have hg2:x8.2=true:=by rw [h8.2,hB,G1];rfl
  exact ⟨⟨(),trivial,congrArg Value.bool (by rw [hM,l1];rfl)⟩,fun _=>fun _=>⟨rfl,rfl,rfl,⟨(),trivial,congrArg Value.bool (by rw [hg1];rfl)⟩,fun _=>fun _=>⟨rfl,⟨(),trivial,congrArg Value.bool hg2,trivial⟩⟩⟩⟩
abbrev law12_lives_K  (KK:Unit->Prop):Prop:=law12_lives_A  (fun za zh zv zu zp=>callQr Try.prog 11 za zh Unit zv zp KK)
theorem law12_lives_m  {KK:Unit->Prop} (kont:KK ()) :law12_lives_K  KK:=callQr_mk (law12_lives) (⟨(),trivial⟩) fun _ _=>kont
theorem Try.sk41:SkT Try.prog 41 77 2 (Value.agg #[.int .i64 0, .int .i64 0]):=SkT.of (by kernel_rfl) (by kernel_rfl) (by kernel_rfl) rfl (fun w=>by kernel_rfl)
noncomputable def Try.rfA38:Code:=((rfs (bodyOf Try.f38)).getD 0 (.skip, .skip)).1
noncomputable def Try.rfB38:Code:=((rfs (bodyOf Try.f38)).getD 0 (.skip, .skip)).2
set_option maxRecDepth 100000 in
theorem pairs_roundX_vc (l D:Nat) (fn:FuncId) (tmps:Array Value) (b bm:Nat) (y:RK 2) (most kx vx:Int) (fr:Nat->Value):roundX Try.prog 29 l 400 Try.rfA38 Try.rfB38 (.reg [.sem []] (.reg [.sem []] (.reg [.sem [.rd 1], .sem [], .sem [], .sem [], .sem [.nw 4], .specw [3,4] [3,4] (F_appK 2 77), .specw [1] [1] F_put] (.reg [.sem [.rd 1], .eq (f_len), .sem [.rd 2], .sem []] (.cond (.done) (.done)))))) (recOf fn tmps #[16,17] Try.rfA38 Try.rfB38 D) ⟨putFr (upd (upd fr 5 (Value.pointer (some ⟨b,0,none⟩))) 3 (Value.pointer (some ⟨bm,0,none⟩))) [(16, .int .i64 kx),(17, .int .i64 vx)],ofList (loopB l (recOf fn tmps #[16,17] Try.rfA38 Try.rfB38 D):: [.blk b (.cells #[sv y.1] 41 (0,0)), .blk bm (.cells #[.int .i64 most] 3 (0,0)),(sk 77 y.1)]),[]⟩ [1,2,3] 0 (X:=Bool×RK 2) (fun zx:Bool×RK 2=>zx.1) (fun zx:Bool×RK 2=> [.blk b (.cells #[sv zx.2.1] 41 (0,0)), .blk bm (.cells #[.int .i64 most] 3 (0,0)),(sk 77 zx.2.1)]) (fun zx:Bool×RK 2=>vals zx.2.1=vals y.1++ [.agg #[.int .i64 kx, .int .i64 vx]]/\(zx.1=true->(((vals y.1).length:Nat):Int)+1<most)/\(zx.1=false->most<=(((vals y.1).length:Nat):Int)+1))=
    ((loopB l (recOf fn tmps #[16,17] Try.rfA38 Try.rfB38 D))=loopB l (recOf fn tmps #[16,17] Try.rfA38 Try.rfB38 D)/\rdQ 1 b (∀b1:Nat,opQ Try.prog (do pure (.value (←Builtin.append_ #[41,41] 41 #[sv y.1, .slice (some ⟨b1,0,none⟩) 1 1]))) [(sk 77 y.1), .blk b1 (.cells #[.int .i64 kx, .int .i64 vx] 77 (0,0))] (RK 2) (fun zx=>sv zx.1) (fun zx=> [(sk 77 zx.1), .blk b1 (.cells #[.int .i64 kx, .int .i64 vx] 77 (0,0))]) (fun zx=>vals zx.1=kvals 2 (sv y.1) (sk 77 y.1)++ [.agg #[.int .i64 kx, .int .i64 vx]]) (fun x2=>opQ Try.prog (do Instr.storeAt 41 (.pointer (some ⟨b,0,none⟩)) (sv x2.1);pure .skip) [.blk b (.cells #[sv y.1] 41 (0,0))] Unit (fun _=> .tuple #[]) (fun _=> [.blk b (.cells #[sv x2.1] 41 (0,0))]) (fun _=>True) (fun _=>rdQ 1 b ((PureRun Try.prog (do pure (.value (←Builtin.len_ #[41] 3 #[sv x2.1]))) (.int .i64 ((vlen (sv x2.1):Nat):Int)))/\rdQ 1 bm (((decide (((vlen (sv x2.1):Nat):Int)≥most))=true->true=true/\(loopB l { (recOf fn tmps #[16,17] Try.rfA38 Try.rfB38 D) with state:= .busy })=loopB l { (recOf fn tmps #[16,17] Try.rfA38 Try.rfB38 D) with state:= .busy }/\ ∃zx:Bool×RK 2,((vals zx.2.1=vals y.1++ [.agg #[.int .i64 kx, .int .i64 vx]]/\(zx.1=true->(((vals y.1).length:Nat):Int)+1<most)/\(zx.1=false->most<=(((vals y.1).length:Nat):Int)+1))/\zx.1=false)/\Slot.blk b (.cells #[sv x2.1] 41 (0,0))= .blk b (.cells #[sv zx.2.1] 41 (0,0))/\Slot.blk bm (.cells #[.int .i64 most] 3 (0,0))= .blk bm (.cells #[.int .i64 most] 3 (0,0))/\(sk 77 x2.1)=(sk 77 zx.2.1)/\True)/\((decide (((vlen (sv x2.1):Nat):Int)≥most))=false->(loopB l { (recOf fn tmps #[16,17] Try.rfA38 Try.rfB38 D) with state:= .busy })=loopB l { (recOf fn tmps #[16,17] Try.rfA38 Try.rfB38 D) with state:= .busy }/\ ∃zx:Bool×RK 2,((vals zx.2.1=vals y.1++ [.agg #[.int .i64 kx, .int .i64 vx]]/\(zx.1=true->(((vals y.1).length:Nat):Int)+1<most)/\(zx.1=false->most<=(((vals y.1).length:Nat):Int)+1))/\zx.1=true)/\Slot.blk b (.cells #[sv x2.1] 41 (0,0))= .blk b (.cells #[sv zx.2.1] 41 (0,0))/\Slot.blk bm (.cells #[.int .i64 most] 3 (0,0))= .blk bm (.cells #[.int .i64 most] 3 (0,0))/\(sk 77 x2.1)=(sk 77 zx.2.1)/\True))))))):=by kernel_rfl
set_option maxRecDepth 100000 in
theorem pairs_roundX (l D:Nat) (fn:FuncId) (tmps:Array Value) (b bm:Nat) (y:RK 2) (most kx vx:Int) (hz:tmps.size=29) (t5:tmps.getD 5 undef=Value.pointer (some ⟨b,0,none⟩)) (t3:tmps.getD 3 undef=Value.pointer (some ⟨bm,0,none⟩)) (hy:(vals y.1).length<=1048576):RoundT Try.prog l #[.int .i64 kx, .int .i64 vx] (loopB l (recOf fn tmps #[16,17] Try.rfA38 Try.rfB38 D):: [.blk b (.cells #[sv y.1] 41 (0,0)), .blk bm (.cells #[.int .i64 most] 3 (0,0)),(sk 77 y.1)]) (Bool×RK 2) (fun zx:Bool×RK 2=> .bool (zx.1)) (fun zx:Bool×RK 2=>loopB l (recC (recOf fn tmps #[16,17] Try.rfA38 Try.rfB38 D) 0 (zx.1)):: [.blk b (.cells #[sv zx.2.1] 41 (0,0)), .blk bm (.cells #[.int .i64 most] 3 (0,0)),(sk 77 zx.2.1)]) (fun zx:Bool×RK 2=>vals zx.2.1=vals y.1++ [.agg #[.int .i64 kx, .int .i64 vx]]/\(zx.1=true->(((vals y.1).length:Nat):Int)+1<most)/\(zx.1=false->most<=(((vals y.1).length:Nat):Int)+1)):=by
  refine roundX_of (n:=29) (fuel:=400) (fr:=(upd (upd (fun i=>tmps.getD i undef) 5 (Value.pointer (some ⟨b,0,none⟩))) 3 (Value.pointer (some ⟨bm,0,none⟩)))) (Hs:= [.blk b (.cells #[sv y.1] 41 (0,0)), .blk bm (.cells #[.int .i64 most] 3 (0,0)),(sk 77 y.1)]) (us:=(fun zx:Bool×RK 2=> [.blk b (.cells #[sv zx.2.1] 41 (0,0)), .blk bm (.cells #[.int .i64 most] 3 (0,0)),(sk 77 zx.2.1)])) (cf:=(fun zx:Bool×RK 2=>zx.1)) Try.mixed hz (fun i=>congrFun ((upd_known (f:=(fun i=>tmps.getD i undef)) (t:=5) (v:=Value.pointer (some ⟨b,0,none⟩)) (t5)).trans (upd_known (f:=(upd (fun i=>tmps.getD i undef) 5 (Value.pointer (some ⟨b,0,none⟩)))) (t:=3) (v:=Value.pointer (some ⟨bm,0,none⟩)) ((upd_other _ _ (by decide)).trans (t3)))) i) rfl rfl _ [1,2,3] rfl (Eq.mpr (pairs_roundX_vc l D fn tmps b bm y most kx vx (fun i=>tmps.getD i undef)) ?_)
  refine ⟨rfl,?_⟩
  refine rdQ_mk 1 _ ?_
  intro b1
  refine opQ_mk (xappendK Try.sk41 41 y (by omega) b1 1 #[.int .i64 kx, .int .i64 vx] rfl (List.all_eq_true.1 rfl)) (wit_appK (kvals_all y _) rfl) fun x2 h1=> ?_
  rw [kvals_eq] at h1
  have ha:=h1
  refine opQ_mk (xputv (b:=b) (cs:= #[sv y.1]) (ty:=41) (te:=41) (fun w=>by kernel_rfl) 0 (sv x2.1) (cells_sv _) (one_sv _) (by show 0<1;decide)) (⟨(),trivial⟩) fun _ _=> ?_
  refine rdQ_mk 1 _ ?_
  refine ⟨xlenK Try.sk41 3 x2.1,?_⟩
  refine rdQ_mk 1 _ ?_
  refine ⟨fun h2=> ?_,fun h2=> ?_⟩
  · refine ⟨rfl,?_⟩
    have hv:=vlen_sv x2.1;rw [ha,List.length_append,List.length_singleton] at hv
    simp only [decide_eq_true_eq,decide_eq_false_iff_not,ge_iff_le] at h2
    exact ⟨rfl,(false,x2),⟨⟨ha,fun q=>(by cases q),fun q=>(by omega)⟩,rfl⟩,rfl,rfl,rfl,trivial⟩
  have hv:=vlen_sv x2.1;rw [ha,List.length_append,List.length_singleton] at hv
  simp only [decide_eq_true_eq,decide_eq_false_iff_not,ge_iff_le] at h2
  exact ⟨rfl,(true,x2),⟨⟨ha,fun q=>(by omega),fun q=>(by cases q)⟩,rfl⟩,rfl,rfl,rfl,trivial⟩
noncomputable def law12_pairsX_C:List Value->List Slot->Ctr:=fun vs hs=>⟨RK 2,fun zx=>sv zx.1,fun zx=> [(sk 77 zx.1)],fun zx=>vals zx.1=List.take (Int.toNat (ci (varg vs 2))) (pairsOf (Value.int .i64 0) (skv (sarg hs 3)) (vals (rrow (scell (sarg hs 0) 0) (sarg hs 1))))⟩
abbrev law12_pairsX_Q (c1 c2 n:Nat) (x:Row) (m:KV) (most:Int) (zv:Value) (zs0:Slot) (zs1:Slot) (zs2:Slot) (zs3:Slot) (zs4:Slot):Prop:= ∃zx:RK 2,(vals zx.1=List.take (Int.toNat most) (pairsOf (Value.int .i64 0) m (vals (rrow (sv x) (ss 3 x)))))/\zv=sv zx.1/\zs0=bk c1 #[sv x] 82/\zs1=(ss 3 x)/\zs2=bk c2 #[.map (some n)] 73/\zs3=(mo n m)/\zs4=(sk 77 zx.1)/\True
abbrev law12_pairsX_A (c1 c2 n:Nat) (x:Row) (m:KV) (most:Int) (zF:SF (RK 2)):Prop:=zF #[.func (.func 54) #[] #[pp c1 0,pp c2 0], .int .i64 most] [bk c1 #[sv x] 82,(ss 3 x),bk c2 #[.map (some n)] 73,(mo n m)] (fun zx=>sv zx.1) (fun zx=> [bk c1 #[sv x] 82,(ss 3 x),bk c2 #[.map (some n)] 73,(mo n m),(sk 77 zx.1)]) (fun zx=>(vals zx.1=List.take (Int.toNat most) (pairsOf (Value.int .i64 0) m (vals (rrow (sv x) (ss 3 x))))))
set_option maxRecDepth 100000 in
theorem law12_pairsX_vc (c1 c2 n:Nat) (x:Row) (m:KV) (most:Int):law12_pairsX_A c1 c2 n x m most (fun za zh zv zu zp=>codeW Try.prog 29 none 2000 none (bodyOf Try.f38) (.reg [.sem [.nw 4],S0] (.reg [.sem [.nw 5]] (.reg [S0,S0,S0, .sem [.rd 4],S0,S0] (.cond (.reg [.sem [.rd 5],S0] (.done)) (.reg [S0] (.rfx 0 [15,5,3] [0,1,2,3,5,4] [50,0,1,2,3,5,4,61] (fun _ hs=>⟨Bool×RK 2,fun _=>undef,fun zx=> [(sarg hs 0),(sarg hs 1),(sarg hs 2),(sarg hs 3), .blk (sblk (sarg hs 4)) (.cells #[sv zx.2.1] 41 (0,0)), .blk (sblk (sarg hs 5)) (.cells #[.int .i64 most] 3 (0,0)),(sk 77 zx.2.1)],fun zx=>(zx.1=true/\vals zx.2.1=List.take (vals x).length (pairsOf (Value.int .i64 0) m (vals x))/\(((vals x).length:Nat):Int)<most)∨(zx.1=false/\vals zx.2.1=List.take (Int.toNat most) (pairsOf (Value.int .i64 0) m (vals x)))⟩) (.reg [.sem [.rd 5],S0] (.done))))))))
    (init za zh) (finM Try.prog Try.f38 [] [0,1,2,3,61] 50 (X:=RK 2) zv zu zp))=
    (∀b1:Nat,∀b2:Nat,false=false/\rdQ 1 b1 (false=false/\((decide (most<=(0:Int)))=true->rdQ 1 b2 (law12_pairsX_Q c1 c2 n x m most (Value.slice none 0 0) (bk c1 #[sv x] 82) (ss 3 x) (bk c2 #[.map (some n)] 73) (mo n m) (Slot.free)))/\((decide (most<=(0:Int)))=false->(∀fr' :Nat->Value,fr' 15=Value.func (.func 54) #[] #[pp c1 0,pp c2 0]->fr' 5=pp b2 0->fr' 3=pp b1 0->RangeX Try.prog 29 (Operand.tmp 15) #[16,17] Try.rfA38 Try.rfB38 0 fr' [bk c1 #[sv x] 82,(ss 3 x),bk c2 #[.map (some n)] 73,(mo n m),bk b2 #[.slice none 0 0] 41,bk b1 #[.int .i64 most] 3] (Bool×RK 2) (fun zx=> [bk c1 #[sv x] 82,(ss 3 x),bk c2 #[.map (some n)] 73,(mo n m),bk b2 #[sv zx.2.1] 41,bk b1 #[.int .i64 most] 3,(sk 77 zx.2.1)]) (fun zx=>(zx.1=true/\vals zx.2.1=List.take (vals x).length (pairsOf (Value.int .i64 0) m (vals x))/\(((vals x).length:Nat):Int)<most)∨(zx.1=false/\vals zx.2.1=List.take (Int.toNat most) (pairsOf (Value.int .i64 0) m (vals x)))))/\(∃zx:Bool×RK 2,(zx.1=true/\vals zx.2.1=List.take (vals x).length (pairsOf (Value.int .i64 0) m (vals x))/\(((vals x).length:Nat):Int)<most)∨(zx.1=false/\vals zx.2.1=List.take (Int.toNat most) (pairsOf (Value.int .i64 0) m (vals x))))/\ ∀ (d3:Nat) (x4:Bool×RK 2),((x4.1=true/\vals x4.2.1=List.take (vals x).length (pairsOf (Value.int .i64 0) m (vals x))/\(((vals x).length:Nat):Int)<most)∨(x4.1=false/\vals x4.2.1=List.take (Int.toNat most) (pairsOf (Value.int .i64 0) m (vals x))))->bothW (rdQ 1 b2 (Slot.blk d3 (.deferred (some []))= .blk d3 (.deferred (some []))/\law12_pairsX_Q c1 c2 n x m most (sv x4.2.1) (bk c1 #[sv x] 82) (ss 3 x) (bk c2 #[.map (some n)] 73) (mo n m) (sk 77 x4.2.1)))))):=by kernel_rfl
set_option maxRecDepth 100000 in
theorem law12_pairsX (c1 c2 n:Nat) (x:Row) (m:KV) (most:Int) (r_x:AOK x) (hk:KOK Try.mk75 m) (hl:m.length<=1000) (hx:KeysOf .i64 m (vals x)):law12_pairsX_A c1 c2 n x m most (fun za zh zv zu zp=>CallT Try.prog 38 za zh (RK 2) zv zu zp):=by
  refine call_of_mark (c:=bodyOf Try.f38) (n:=29) (fn:=Try.f38) Try.mixed Try.func38 (by kernel_rfl) (by kernel_rfl) (by kernel_rfl) 2000 _ [] [0,1,2,3,61] 50 rfl rfl (Eq.mpr (law12_pairsX_vc c1 c2 n x m most) ?_)
  have d_x:=rrow_vals x 3
  intro b1
  intro b2
  refine ⟨rfl,rdQ_mk 1 _ ⟨rfl,⟨fun h1=> ?_,fun h1=> ?_⟩⟩⟩
  · refine rdQ_mk 1 _ ?_
    unfold law12_pairsX_Q
    simp only [decide_eq_true_eq] at h1
    rw [d_x]
    exact ⟨RK.nil 2,by rw [show Int.toNat most=0 by omega,List.take_zero];rfl,rfl,rfl,rfl,rfl,rfl,rfl,trivial⟩
  simp only [decide_eq_false_iff_not] at h1
  have hm0:0<most:=by omega
  refine ⟨fun fr' ht hb1 hb2=>range_allX (id:=0) [.blk c1 (.cells #[sv x] 82 (0,0)),(ss 3 x), .blk c2 (.cells #[.map (some n)] 73 (0,0)),(mo n m)] (fun i=> #[(vals x).getD i undef,(mget m ((vals x).getD i undef)).getD (Value.int .i64 0)]) (by exact ht) (keys_AllX75 c1 c2 n x m hk (by omega) hx) (fun y=> [.blk b2 (.cells #[sv y.2.1] 41 (0,0)), .blk b1 (.cells #[.int .i64 most] 3 (0,0)),(sk 77 y.2.1)]) (·.1) (fun i y=>y.1=true/\vals y.2.1=List.take i (pairsOf (Value.int .i64 0) m (vals x))/\((i:Nat):Int)<most) (fun y=>y.1=false/\vals y.2.1=List.take (Int.toNat most) (pairsOf (Value.int .i64 0) m (vals x))) (fun i y h=>h.1) (fun y h=>h.1) (fun l D fn tmps i y hi hy hz hf=>by
  have hyl:(vals y.2.1).length<=1048576:=by rw [hy.2.1,List.length_take,pairs_len];have:=hx.len;omega
  obtain ⟨kx,hkx⟩:=hx.2.2 _ (getD_mem (d:=undef) hi)
  obtain ⟨vx,_,hvx⟩:=kok_val hk (z:=(Value.int .i64 0)) ⟨0,rfl,rfl⟩ ((vals x).getD i undef)
  exact round_conv (pairs_roundX l D fn tmps b2 b1 y.2 most kx vx hz ((hf 5).trans hb1) ((hf 3).trans hb2) hyl) (by show #[_,_]=_;rw [hvx,hkx]) (fun z hz=>tk_round (by rw [pairs_len];exact hi) hy (by rw [pairsOf_getD hi,hvx,hkx];exact hz))) (true,RK.nil 2) ⟨rfl,by rw [List.take_zero];rfl,by omega⟩ imp_free2,tk_wit2 _ _ _ _,fun d3 x4 h2=>bothW_mk (rdQ_mk 1 _ ⟨rfl,?_⟩)⟩
  unfold law12_pairsX_Q
  rw [d_x]
  exact ⟨x4.2,tk_end pairs_len h2,rfl,rfl,rfl,rfl,rfl,rfl,trivial⟩
theorem Try.xneP77 (x y : Int × Int) : PureRun Try.prog (xBin .neq 77 (p2V x) (p2V y)) (.bool (!decide (x = y))) := xne_p2 (e := 3) (f0 := Go.Field.mk "K" 3 0 false "" "" 0) (f1 := Go.Field.mk "V" 3 1 false "" "" 8) (by kernel_rfl) (by kernel_rfl) (by kernel_rfl) (by kernel_rfl) (fun w => by kernel_rfl) (by kernel_rfl) (by decide) rfl rfl (by decide) rfl rfl x y
abbrev law12_same_Q (a b:RK 2) (zv:Value) (zs0:Slot) (zs1:Slot):Prop:= ∃_:Unit,(True)/\zv= .bool true/\zs0=(sk 77 a.1)/\zs1=(sk 77 b.1)/\True
set_option maxRecDepth 100000 in
theorem law12_same_vc (a b:RK 2):codeW Try.prog 26 none 2000 none (bodyOf Try.f37) (.reg [S0] (.reg [S0, .eq (f_len),S0, .eq (f_len), .gen [] (Sx.one (.bool false))] (.condF (.reg [S0, .eq (f_len),S0] (.inv Nat (fun zx=> [(0,sv a.1),(1,sv b.1),(11,sv a.1),(12, .int .i64 ((vlen (sv a.1):Nat):Int)),(13, .int .i64 ((zx:Nat):Int))]) (fun zx=> [(0,(sk 77 a.1)),(1,(sk 77 b.1))]) (fun zx=>zx<=(vals a.1).length) (fun zx=>(vals a.1).length - zx) (fun x1=> .reg [S0] (.cond (.reg [S0,S0] (.reg [S0,S0, .eq (f_idxK 2), .specr [0] (F_getK 2 p2V),S0,S0, .eq (f_idxK 2), .specr [1] (F_getK 2 p2V), .specr [] (fun _ hs=>⟨Unit,fun _=> .bool false,fun _=>hs,fun _=>True⟩)] (.condF (.reg [.gen [] (fun vs=>Sx.one (.int .i64 (ci (varg vs 0)+ci (varg vs 1))) vs),S0] (.done))))) (.reg [S0] (.done)))))))))
    (init #[sv a.1,sv b.1] [(sk 77 a.1),(sk 77 b.1)]) (finW Try.prog Try.f37 [] [0,1] (X:=Unit) (fun _=> .bool true) (fun _=> [(sk 77 a.1),(sk 77 b.1)]) (fun _=>True))=
    ((PureRun Try.prog (vS (Builtin.len_ #[41] 3 #[sv a.1])) (.int .i64 ((vlen (sv a.1):Nat):Int)))/\(PureRun Try.prog (vS (Builtin.len_ #[41] 3 #[sv b.1])) (.int .i64 ((vlen (sv b.1):Nat):Int)))/\(∃_:Unit,True/\Value.bool (((vlen (sv a.1):Nat):Int) !=((vlen (sv b.1):Nat):Int))= .bool false)/\ ∀_:Unit,(True)->(false=false)/\(PureRun Try.prog (vS (Builtin.len_ #[41] 3 #[sv a.1])) (.int .i64 ((vlen (sv a.1):Nat):Int)))/\(∃zx:Nat,(zx<=(vals a.1).length)/\sv a.1=sv a.1/\sv b.1=sv b.1/\sv a.1=sv a.1/\Value.int .i64 ((vlen (sv a.1):Nat):Int)= .int .i64 ((vlen (sv a.1):Nat):Int)/\Value.int .i64 0= .int .i64 ((zx:Nat):Int)/\(sk 77 a.1)=(sk 77 a.1)/\(sk 77 b.1)=(sk 77 b.1)/\True)/\ ∀x1:Nat,∀jx1:Nat->Value,(x1<=(vals a.1).length)->((decide (((x1:Nat):Int)<((vlen (sv a.1):Nat):Int)))=true->(PureRun Try.prog (vS (Instr.indexAt 41 (sv a.1) (.int .i64 ((x1:Nat):Int)))) (.pointer (some ⟨(vblk (sv a.1)),(Int.toNat ((x1:Nat):Int)*2),none⟩)))/\opQr Try.prog (vS (Instr.loadAt 77 (.pointer (some ⟨(vblk (sv a.1)),(Int.toNat ((x1:Nat):Int)*2),none⟩)))) [(sk 77 a.1)] (Int×Int) (fun zx=> .agg #[.int .i64 zx.1, .int .i64 zx.2]) (fun zx=>rdK 2 (scells (sk 77 a.1)) (Int.toNat ((x1:Nat):Int)*2)=p2V zx) (fun x2=>(PureRun Try.prog (vS (Instr.indexAt 41 (sv b.1) (.int .i64 ((x1:Nat):Int)))) (.pointer (some ⟨(vblk (sv b.1)),(Int.toNat ((x1:Nat):Int)*2),none⟩)))/\opQr Try.prog (vS (Instr.loadAt 77 (.pointer (some ⟨(vblk (sv b.1)),(Int.toNat ((x1:Nat):Int)*2),none⟩)))) [(sk 77 b.1)] (Int×Int) (fun zx=> .agg #[.int .i64 zx.1, .int .i64 zx.2]) (fun zx=>rdK 2 (scells (sk 77 b.1)) (Int.toNat ((x1:Nat):Int)*2)=p2V zx) (fun x3=>opQr Try.prog (xBin .neq 77 (p2V x2) (p2V x3)) [] Unit (fun _=> .bool false) (fun _=>True) (fun _=>(false=false)/\(∃_:Unit,True/\Value.int .i64 (IntKind.i64.wrap (((x1:Nat):Int)+1))= .int .i64 (((x1:Nat):Int)+1))/\ ∀_:Unit,(True)-> ∃zy:Nat,(zy<=(vals a.1).length)/\(vals a.1).length - zy<(vals a.1).length - x1/\sv a.1=sv a.1/\sv b.1=sv b.1/\sv a.1=sv a.1/\Value.int .i64 ((vlen (sv a.1):Nat):Int)= .int .i64 ((vlen (sv a.1):Nat):Int)/\Value.int .i64 (((x1:Nat):Int)+1)= .int .i64 ((zy:Nat):Int)/\(sk 77 a.1)=(sk 77 a.1)/\(sk 77 b.1)=(sk 77 b.1)/\True))))/\((decide (((x1:Nat):Int)<((vlen (sv a.1):Nat):Int)))=false->law12_same_Q a b (Value.bool true) (sk 77 a.1) (sk 77 b.1))):=by kernel_rfl
set_option maxRecDepth 100000 in
theorem law12_same (a b:RK 2) (ha: ∀i,i<(vals a.1).length-> ∃x0,(vals a.1)[i]? =some (p2V x0)) (hv:vals a.1=vals b.1) (hl:(vals a.1).length<=1048576):CallT Try.prog 37 #[sv a.1,sv b.1] [(sk 77 a.1),(sk 77 b.1)] Unit (fun _=> .bool true) (fun _=> [(sk 77 a.1),(sk 77 b.1)]) (fun _=>True):=by
  refine call_of (c:=bodyOf Try.f37) (n:=26) (fn:=Try.f37) Try.mixed Try.func37 (by kernel_rfl) (by kernel_rfl) (by kernel_rfl) 2000 _ [] [0,1] rfl rfl (Eq.mpr (law12_same_vc a b) ?_)
  have hv1:=vlen_sv a.1;have hv2:=vlen_sv b.1;have hl2:(vals b.1).length=(vals a.1).length:=by rw [hv]
  refine ⟨xlenK Try.sk41 3 a.1,xlenK Try.sk41 3 b.1,⟨(),trivial,congrArg Value.bool (by rw [hv1,hv2,hl2];exact bne_self_eq_false _)⟩,fun _=>fun _=>⟨rfl,⟨xlenK Try.sk41 3 a.1,⟨?_,fun x1 jx1 h1=> ?_⟩⟩⟩⟩
  · exact ⟨0,Nat.zero_le _,rfl,rfl,rfl,rfl,rfl,rfl,rfl,trivial⟩
  skip
  refine ⟨fun h2=> ?_,fun h2=> ?_⟩
  · refine ⟨xidxK Try.sk41 a.1 .i64 ((x1:Nat):Int) (by (try simp only [decide_eq_true_eq,decide_eq_false_iff_not,gt_iff_lt,ge_iff_le,Int.not_lt,Int.not_le] at *);omega) (by (try simp only [decide_eq_true_eq,decide_eq_false_iff_not,gt_iff_lt,ge_iff_le,Int.not_lt,Int.not_le] at *);omega),opQr_mk (xgetKV Try.sk41 p2V a (Int.toNat ((x1:Nat):Int)) (ha _ (by rw [Int.toNat_natCast];(try simp only [decide_eq_true_eq,decide_eq_false_iff_not,gt_iff_lt,ge_iff_le,Int.not_lt,Int.not_le] at *);omega))) (wgetKV (ha _ (by rw [Int.toNat_natCast];(try simp only [decide_eq_true_eq,decide_eq_false_iff_not,gt_iff_lt,ge_iff_le,Int.not_lt,Int.not_le] at *);omega))) fun x2 h3=> ?_⟩
    replace h3:=egetKV (ha _ (by rw [Int.toNat_natCast];(try simp only [decide_eq_true_eq,decide_eq_false_iff_not,gt_iff_lt,ge_iff_le,Int.not_lt,Int.not_le] at *);omega)) h3
    have q1:=h3
    refine ⟨xidxK Try.sk41 b.1 .i64 ((x1:Nat):Int) (by (try simp only [decide_eq_true_eq,decide_eq_false_iff_not,gt_iff_lt,ge_iff_le,Int.not_lt,Int.not_le] at *);omega) (by (try simp only [decide_eq_true_eq,decide_eq_false_iff_not,gt_iff_lt,ge_iff_le,Int.not_lt,Int.not_le] at *);omega),opQr_mk (xgetKV Try.sk41 p2V b (Int.toNat ((x1:Nat):Int)) (by rw [←hv];exact (ha _ (by rw [Int.toNat_natCast];(try simp only [decide_eq_true_eq,decide_eq_false_iff_not,gt_iff_lt,ge_iff_le,Int.not_lt,Int.not_le] at *);omega)))) (wgetKV (by rw [←hv];exact (ha _ (by rw [Int.toNat_natCast];(try simp only [decide_eq_true_eq,decide_eq_false_iff_not,gt_iff_lt,ge_iff_le,Int.not_lt,Int.not_le] at *);omega)))) fun x3 h4=> ?_⟩
    replace h4:=egetKV (by rw [←hv];exact (ha _ (by rw [Int.toNat_natCast];(try simp only [decide_eq_true_eq,decide_eq_false_iff_not,gt_iff_lt,ge_iff_le,Int.not_lt,Int.not_le] at *);omega))) h4
    have q2:=h4
    exact opQr_mk (OpT.ofPure (Try.xneP77 x2 x3) (congrArg Value.bool (by rw [←hv,q1] at q2;have e:=p2V_inj (Option.some.inj q2);simp [e]))) (⟨(),trivial⟩) fun _ _=>⟨rfl,⟨⟨(),trivial,congrArg (Value.int .i64) (wrap_i64 _ (by omega) (by omega))⟩,fun _=>fun _=>⟨x1+1,by (try simp only [decide_eq_true_eq,decide_eq_false_iff_not,gt_iff_lt,ge_iff_le,Int.not_lt,Int.not_le] at *);omega,by (try simp only [decide_eq_true_eq,decide_eq_false_iff_not,gt_iff_lt,ge_iff_le,Int.not_lt,Int.not_le] at *);omega,rfl,rfl,rfl,rfl,congrArg (Value.int .i64) (by (try dsimp only);omega),rfl,rfl,trivial⟩⟩⟩
  exact ⟨(),trivial,rfl,rfl,rfl,trivial⟩
abbrev ref12_Get_raw_Q (r:RK 2) (l:PL) (k:Int) (zv:Value) (zs0:Slot):Prop:= ∃_:Unit,(True)/\zv= .tuple #[.int .i64 ((pGet l k).1), .bool ((pGet l k).2)]/\zs0=(sk 77 r.1)/\True
set_option maxRecDepth 100000 in
theorem ref12_Get_raw_vc (r:RK 2) (l:PL) (k:Int):codeW Try.prog 21 none 2000 none (bodyOf Try.f23) (.reg [S0,S0] (.reg [S0, .eq (f_len),S0] (.inv Nat (fun zx=> [(0,sv r.1),(1, .int .i64 k),(8,sv r.1),(9, .int .i64 ((vlen (sv r.1):Nat):Int)),(10, .int .i64 ((zx:Nat):Int))]) (fun zx=> [(0,(sk 77 r.1))]) (fun zx=>zx<=l.length/\ ∀p∈l.take zx,p.1≠k) (fun zx=>l.length - zx) (fun x1=> .reg [S0] (.cond (.reg [.eq (f_idxK 2), .specr [0] (F_getK 2 p2V), .sem [.nw 1], .sem [.wr 1, .wr 1]] (.reg [S0, .sem [.rd 1],S0,S0] (.cond (.reg [S0, .sem [.rd 1],S0,S0] (.done)) (.reg [.gen [] (fun vs=>Sx.one (.int .i64 (ci (varg vs 0)+ci (varg vs 1))) vs),S0] (.done))))) (.reg [S0,S0] (.done)))))))
    (init #[sv r.1, .int .i64 k] [(sk 77 r.1)]) (finW Try.prog Try.f23 [] [0] (X:=Unit) (fun _=> .tuple #[.int .i64 ((pGet l k).1), .bool ((pGet l k).2)]) (fun _=> [(sk 77 r.1)]) (fun _=>True))=
    ((PureRun Try.prog (vS (Builtin.len_ #[41] 3 #[sv r.1])) (.int .i64 ((vlen (sv r.1):Nat):Int)))/\(∃zx:Nat,(zx<=l.length/\ ∀p∈l.take zx,p.1≠k)/\sv r.1=sv r.1/\Value.int .i64 k= .int .i64 k/\sv r.1=sv r.1/\Value.int .i64 ((vlen (sv r.1):Nat):Int)= .int .i64 ((vlen (sv r.1):Nat):Int)/\Value.int .i64 0= .int .i64 ((zx:Nat):Int)/\(sk 77 r.1)=(sk 77 r.1)/\True)/\ ∀x1:Nat,∀jx1:Nat->Value,(x1<=l.length/\ ∀p∈l.take x1,p.1≠k)->((decide (((x1:Nat):Int)<((vlen (sv r.1):Nat):Int)))=true->(PureRun Try.prog (vS (Instr.indexAt 41 (sv r.1) (.int .i64 ((x1:Nat):Int)))) (.pointer (some ⟨(vblk (sv r.1)),(Int.toNat ((x1:Nat):Int)*2),none⟩)))/\opQr Try.prog (vS (Instr.loadAt 77 (.pointer (some ⟨(vblk (sv r.1)),(Int.toNat ((x1:Nat):Int)*2),none⟩)))) [(sk 77 r.1)] (Int×Int) (fun zx=> .agg #[.int .i64 zx.1, .int .i64 zx.2]) (fun zx=>rdK 2 (scells (sk 77 r.1)) (Int.toNat ((x1:Nat):Int)*2)=p2V zx) (fun x2=> ∀b3:Nat,rdQ 2 b3 (rdQ 1 b3 (((x2.1==k)=true->rdQ 1 b3 (ref12_Get_raw_Q r l k (Value.tuple #[.int .i64 x2.2, .bool true]) (sk 77 r.1)))/\((x2.1==k)=false->(∃_:Unit,True/\Value.int .i64 (IntKind.i64.wrap (((x1:Nat):Int)+1))= .int .i64 (((x1:Nat):Int)+1))/\ ∀_:Unit,(True)-> ∃zy:Nat,(zy<=l.length/\ ∀p∈l.take zy,p.1≠k)/\l.length - zy<l.length - x1/\sv r.1=sv r.1/\Value.int .i64 k= .int .i64 k/\sv r.1=sv r.1/\Value.int .i64 ((vlen (sv r.1):Nat):Int)= .int .i64 ((vlen (sv r.1):Nat):Int)/\Value.int .i64 (((x1:Nat):Int)+1)= .int .i64 ((zy:Nat):Int)/\(sk 77 r.1)=(sk 77 r.1)/\True)))))/\((decide (((x1:Nat):Int)<((vlen (sv r.1):Nat):Int)))=false->ref12_Get_raw_Q r l k (Value.tuple #[.int .i64 0, .bool false]) (sk 77 r.1))):=by kernel_rfl
set_option maxRecDepth 100000 in
theorem ref12_Get_raw (r:RK 2) (l:PL) (k:Int) (hv:vals r.1=pvs l) (hn:l.length<=200):CallT Try.prog 23 #[sv r.1, .int .i64 k] [(sk 77 r.1)] Unit (fun _=> .tuple #[.int .i64 ((pGet l k).1), .bool ((pGet l k).2)]) (fun _=> [(sk 77 r.1)]) (fun _=>True):=by
  refine call_of (c:=bodyOf Try.f23) (n:=21) (fn:=Try.f23) Try.mixed Try.func23 (by kernel_rfl) (by kernel_rfl) (by kernel_rfl) 2000 _ [] [0] rfl rfl (Eq.mpr (ref12_Get_raw_vc r l k) ?_)
  have hvl:=vlen_sv r.1;rw [hv,pvs_len] at hvl
  refine ⟨xlenK Try.sk41 3 r.1,⟨?_,fun x1 jx1 h1=> ?_⟩⟩
  · exact ⟨0,⟨Nat.zero_le _,by simp⟩,rfl,rfl,rfl,rfl,rfl,rfl,trivial⟩
  obtain ⟨hj,hno⟩:=h1
  refine ⟨fun h2=> ?_,fun h2=> ?_⟩
  · refine ⟨xidxK Try.sk41 r.1 .i64 ((x1:Nat):Int) (by (try simp only [decide_eq_true_eq,decide_eq_false_iff_not,gt_iff_lt,ge_iff_le,Int.not_lt,Int.not_le] at *);omega) (by (rw [←vlen_sv];try simp only [decide_eq_true_eq,decide_eq_false_iff_not,gt_iff_lt,ge_iff_le,Int.not_lt,Int.not_le] at *);omega),opQr_mk (xgetKV Try.sk41 p2V r (Int.toNat ((x1:Nat):Int)) (pvs_at hv (by (try simp only [decide_eq_true_eq,decide_eq_false_iff_not,gt_iff_lt,ge_iff_le,Int.not_lt,Int.not_le] at *);omega))) (wgetKV (pvs_at hv (by (try simp only [decide_eq_true_eq,decide_eq_false_iff_not,gt_iff_lt,ge_iff_le,Int.not_lt,Int.not_le] at *);omega))) fun x2 h3=> ?_⟩
    replace h3:=egetKV (pvs_at hv (by (try simp only [decide_eq_true_eq,decide_eq_false_iff_not,gt_iff_lt,ge_iff_le,Int.not_lt,Int.not_le] at *);omega)) h3
    have hq:=pvs_get hv h3
    try rw [Int.toNat_natCast] at hq
    intro b3
    refine rdQ_mk 2 _ (rdQ_mk 1 _ ⟨fun h4=> ?_,fun h4=> ?_⟩)
    · refine rdQ_mk 1 _ ?_
      have he:x2.1=k:=by simpa using h4
      exact ⟨(),trivial,by rw [pGet_some hno hq he],rfl,trivial⟩
    refine ⟨⟨(),trivial,congrArg (Value.int .i64) (wrap_i64 _ (by omega) (by omega))⟩,fun _=>fun _=> ?_⟩
    have hlt:x1<l.length:=(List.getElem?_eq_some_iff.1 hq).1
    have hne:x2.1≠k:=by simpa using h4
    exact ⟨x1+1,⟨hlt,not_takeP hno hq hne⟩,by omega,rfl,rfl,rfl,rfl,congrArg (Value.int .i64) (by (try dsimp only);omega),rfl,trivial⟩
  unfold ref12_Get_raw_Q
  have hje:x1=l.length:=by (try simp only [decide_eq_true_eq,decide_eq_false_iff_not,gt_iff_lt,ge_iff_le,Int.not_lt,Int.not_le] at *);omega
  rw [hje,List.take_length] at hno
  exact ⟨(),trivial,by rw [pGet_none hno],rfl,trivial⟩
noncomputable def ref12_Get_C:List Value->List Slot->Ctr:=fun vs hs=>⟨Unit,fun _=> .tuple #[.int .i64 ((pGet (blp (skv (sarg hs 0)) (varg vs 1)) (ci (varg vs 2))).1), .bool ((pGet (blp (skv (sarg hs 0)) (varg vs 1)) (ci (varg vs 2))).2)],fun _=>hs,fun _=>True⟩
theorem ref12_Get (bm:KV) (v:Value) (k:Int) (hb:InBag bm v (pvs (blp bm v))) (hn:(blp bm v).length<=200):CallT Try.prog 23 #[v, .int .i64 k] [(bagK 2 77 bm)] Unit (fun _=> .tuple #[.int .i64 ((pGet (blp bm v) k).1), .bool ((pGet (blp bm v) k).2)]) (fun _=> [(bagK 2 77 bm)]) (fun _=>True):=by
  refine bagK_read (us:=fun _=> []) (enterOK (c:=bodyOf Try.f23) Try.func23 (by kernel_rfl) (by kernel_rfl)) hb fun r hs hv=> ?_
  subst hs
  exact ref12_Get_raw r _ k hv hn
abbrev ref12_Drop_raw_Q (r:RK 2) (l:PL) (k:Int) (zv:Value) (zs0:Slot) (zs1:Slot):Prop:= ∃zx:RK 2,(vals zx.1=pvs (pDrop l k))/\zv= .tuple #[sv zx.1, .bool (decide ((((pDrop l k).length:Nat):Int)<((l.length:Nat):Int)))]/\zs0=(sk 77 r.1)/\zs1=(sk 77 zx.1)/\True
set_option maxRecDepth 100000 in
theorem ref12_Drop_raw_vc (r:RK 2) (l:PL) (k:Int):codeW Try.prog 30 none 2000 none (bodyOf Try.f16) (.reg [S0,S0] (.reg [S0] (.reg [S0, .eq (f_len),S0] (.inv (Nat×RK 2) (fun zx=> [(0,sv r.1),(1, .int .i64 k),(6,sv zx.2.1),(9,sv r.1),(10, .int .i64 ((vlen (sv r.1):Nat):Int)),(11, .int .i64 ((zx.1:Nat):Int))]) (fun zx=> [(0,(sk 77 r.1)),(40,(sk 77 zx.2.1))]) (fun zx=>zx.1<=l.length/\vals zx.2.1=pvs (pDrop (l.take zx.1) k)) (fun zx=>l.length - zx.1) (fun x1=> .reg [S0] (.cond (.reg [.eq (f_idxK 2), .specr [0] (F_getK 2 p2V), .sem [.nw 1], .sem [.wr 1, .wr 1]] (.reg [S0, .sem [.rd 1],S0,S0] (.cond (.reg [S0, .sem [.rd 1, .rd 1], .sem [.nw 2], .specw [40,2] [40,2] (F_appK 2 77),S0] (.reg [.gen [] (fun vs=>Sx.one (.int .i64 (ci (varg vs 0)+ci (varg vs 1))) vs),S0] (.done))) (.reg [.gen [] (fun vs=>Sx.one (.int .i64 (ci (varg vs 0)+ci (varg vs 1))) vs),S0] (.done))))) (.reg [S0,S0, .eq (f_len),S0, .eq (f_len),S0,S0,S0] (.done))))))))
    (init #[sv r.1, .int .i64 k] [(sk 77 r.1)]) (finW Try.prog Try.f16 [] [0,40] (X:=RK 2) (fun zx=> .tuple #[sv zx.1, .bool (decide ((((pDrop l k).length:Nat):Int)<((l.length:Nat):Int)))]) (fun zx=> [(sk 77 r.1),(sk 77 zx.1)]) (fun zx=>(vals zx.1=pvs (pDrop l k))))=
    ((PureRun Try.prog (vS (Builtin.len_ #[41] 3 #[sv r.1])) (.int .i64 ((vlen (sv r.1):Nat):Int)))/\(∃zx:Nat×RK 2,(zx.1<=l.length/\vals zx.2.1=pvs (pDrop (l.take zx.1) k))/\sv r.1=sv r.1/\Value.int .i64 k= .int .i64 k/\Value.slice none 0 0=sv zx.2.1/\sv r.1=sv r.1/\Value.int .i64 ((vlen (sv r.1):Nat):Int)= .int .i64 ((vlen (sv r.1):Nat):Int)/\Value.int .i64 0= .int .i64 ((zx.1:Nat):Int)/\(sk 77 r.1)=(sk 77 r.1)/\Slot.free=(sk 77 zx.2.1)/\True)/\ ∀x1:Nat×RK 2,∀jx1:Nat->Value,(x1.1<=l.length/\vals x1.2.1=pvs (pDrop (l.take x1.1) k))->((decide (((x1.1:Nat):Int)<((vlen (sv r.1):Nat):Int)))=true->(PureRun Try.prog (vS (Instr.indexAt 41 (sv r.1) (.int .i64 ((x1.1:Nat):Int)))) (.pointer (some ⟨(vblk (sv r.1)),(Int.toNat ((x1.1:Nat):Int)*2),none⟩)))/\opQr Try.prog (vS (Instr.loadAt 77 (.pointer (some ⟨(vblk (sv r.1)),(Int.toNat ((x1.1:Nat):Int)*2),none⟩)))) [(sk 77 r.1)] (Int×Int) (fun zx=> .agg #[.int .i64 zx.1, .int .i64 zx.2]) (fun zx=>rdK 2 (scells (sk 77 r.1)) (Int.toNat ((x1.1:Nat):Int)*2)=p2V zx) (fun x2=> ∀b3:Nat,rdQ 2 b3 (rdQ 1 b3 (((x2.1 !=k)=true->rdQ 2 b3 (∀b4:Nat,opQ Try.prog (vS (Builtin.append_ #[41,41] 41 #[sv x1.2.1, .slice (some ⟨b4,0,none⟩) 1 1])) [(sk 77 x1.2.1),bk b4 #[.int .i64 x2.1, .int .i64 x2.2] 77] (RK 2) (fun zx=>sv zx.1) (fun zx=> [(sk 77 zx.1),bk b4 #[.int .i64 x2.1, .int .i64 x2.2] 77]) (fun zx=>vals zx.1=kvals 2 (sv x1.2.1) (sk 77 x1.2.1)++ [.agg #[.int .i64 x2.1, .int .i64 x2.2]]) (fun x5=>(∃_:Unit,True/\Value.int .i64 (IntKind.i64.wrap (((x1.1:Nat):Int)+1))= .int .i64 (((x1.1:Nat):Int)+1))/\ ∀_:Unit,(True)-> ∃zy:Nat×RK 2,(zy.1<=l.length/\vals zy.2.1=pvs (pDrop (l.take zy.1) k))/\l.length - zy.1<l.length - x1.1/\sv r.1=sv r.1/\Value.int .i64 k= .int .i64 k/\sv x5.1=sv zy.2.1/\sv r.1=sv r.1/\Value.int .i64 ((vlen (sv r.1):Nat):Int)= .int .i64 ((vlen (sv r.1):Nat):Int)/\Value.int .i64 (((x1.1:Nat):Int)+1)= .int .i64 ((zy.1:Nat):Int)/\(sk 77 r.1)=(sk 77 r.1)/\(sk 77 x5.1)=(sk 77 zy.2.1)/\True)))/\((x2.1 !=k)=false->(∃_:Unit,True/\Value.int .i64 (IntKind.i64.wrap (((x1.1:Nat):Int)+1))= .int .i64 (((x1.1:Nat):Int)+1))/\ ∀_:Unit,(True)-> ∃zy:Nat×RK 2,(zy.1<=l.length/\vals zy.2.1=pvs (pDrop (l.take zy.1) k))/\l.length - zy.1<l.length - x1.1/\sv r.1=sv r.1/\Value.int .i64 k= .int .i64 k/\sv x1.2.1=sv zy.2.1/\sv r.1=sv r.1/\Value.int .i64 ((vlen (sv r.1):Nat):Int)= .int .i64 ((vlen (sv r.1):Nat):Int)/\Value.int .i64 (((x1.1:Nat):Int)+1)= .int .i64 ((zy.1:Nat):Int)/\(sk 77 r.1)=(sk 77 r.1)/\(sk 77 x1.2.1)=(sk 77 zy.2.1)/\True)))))/\((decide (((x1.1:Nat):Int)<((vlen (sv r.1):Nat):Int)))=false->(PureRun Try.prog (vS (Builtin.len_ #[41] 3 #[sv x1.2.1])) (.int .i64 ((vlen (sv x1.2.1):Nat):Int)))/\(PureRun Try.prog (vS (Builtin.len_ #[41] 3 #[sv r.1])) (.int .i64 ((vlen (sv r.1):Nat):Int)))/\ref12_Drop_raw_Q r l k (Value.tuple #[sv x1.2.1, .bool (decide (((vlen (sv x1.2.1):Nat):Int)<((vlen (sv r.1):Nat):Int)))]) (sk 77 r.1) (sk 77 x1.2.1))):=by kernel_rfl
set_option maxRecDepth 100000 in
theorem ref12_Drop_raw (r:RK 2) (l:PL) (k:Int) (hv:vals r.1=pvs l) (hn:l.length<=200):CallT Try.prog 16 #[sv r.1, .int .i64 k] [(sk 77 r.1)] (RK 2) (fun zx=> .tuple #[sv zx.1, .bool (decide ((((pDrop l k).length:Nat):Int)<((l.length:Nat):Int)))]) (fun zx=> [(sk 77 r.1),(sk 77 zx.1)]) (fun zx=>(vals zx.1=pvs (pDrop l k))):=by
  refine call_of (c:=bodyOf Try.f16) (n:=30) (fn:=Try.f16) Try.mixed Try.func16 (by kernel_rfl) (by kernel_rfl) (by kernel_rfl) 2000 _ [] [0,40] rfl rfl (Eq.mpr (ref12_Drop_raw_vc r l k) ?_)
  have hvl:=vlen_sv r.1;rw [hv,pvs_len] at hvl
  refine ⟨xlenK Try.sk41 3 r.1,⟨?_,fun x1 jx1 h1=> ?_⟩⟩
  · exact ⟨(0,RK.nil 2),⟨Nat.zero_le _,rfl⟩,rfl,rfl,rfl,rfl,rfl,rfl,rfl,rfl,trivial⟩
  obtain ⟨hj,ho⟩:=h1
  have hol:(vals x1.2.1).length<=200:=by rw [ho,pvs_len];have:=List.length_filter_le (fun p:Int×Int=>decide (p.1≠k)) (l.take x1.1);rw [List.length_take] at this;unfold pDrop;omega
  refine ⟨fun h2=> ?_,fun h2=> ?_⟩
  · refine ⟨xidxK Try.sk41 r.1 .i64 ((x1.1:Nat):Int) (by (try simp only [decide_eq_true_eq,decide_eq_false_iff_not,gt_iff_lt,ge_iff_le,Int.not_lt,Int.not_le] at *);omega) (by (rw [←vlen_sv];try simp only [decide_eq_true_eq,decide_eq_false_iff_not,gt_iff_lt,ge_iff_le,Int.not_lt,Int.not_le] at *);omega),opQr_mk (xgetKV Try.sk41 p2V r (Int.toNat ((x1.1:Nat):Int)) (pvs_at hv (by (try simp only [decide_eq_true_eq,decide_eq_false_iff_not,gt_iff_lt,ge_iff_le,Int.not_lt,Int.not_le] at *);omega))) (wgetKV (pvs_at hv (by (try simp only [decide_eq_true_eq,decide_eq_false_iff_not,gt_iff_lt,ge_iff_le,Int.not_lt,Int.not_le] at *);omega))) fun x2 h3=> ?_⟩
    replace h3:=egetKV (pvs_at hv (by (try simp only [decide_eq_true_eq,decide_eq_false_iff_not,gt_iff_lt,ge_iff_le,Int.not_lt,Int.not_le] at *);omega)) h3
    have hq:=pvs_get hv h3
    try rw [Int.toNat_natCast] at hq
    intro b3
    refine rdQ_mk 2 _ (rdQ_mk 1 _ ⟨fun h4=> ?_,fun h4=> ?_⟩)
    · refine rdQ_mk 2 _ (fun b4=>opQ_mk (xappendK Try.sk41 41 x1.2 (by omega) b4 1 #[.int .i64 x2.1, .int .i64 x2.2] rfl (List.all_eq_true.1 rfl)) (wit_appK (kvals_all x1.2 _) rfl) fun x5 h5=> ?_)
      rw [kvals_eq] at h5
      have ha:=h5
      refine ⟨⟨(),trivial,congrArg (Value.int .i64) (wrap_i64 _ (by omega) (by omega))⟩,fun _=>fun _=> ?_⟩
      have hlt:x1.1<l.length:=(List.getElem?_eq_some_iff.1 hq).1
      have hdt:=drop_take (k:=k) hq
      have hne:x2.1≠k:=by simpa using h4
      rw [if_neg hne] at hdt
      exact ⟨(x1.1+1,x5),⟨hlt,by (try dsimp only);rw [hdt,ha,ho];simp [pvs]⟩,by (try dsimp only);omega,rfl,rfl,rfl,rfl,rfl,congrArg (Value.int .i64) (by (try dsimp only);omega),rfl,rfl,trivial⟩
    refine ⟨⟨(),trivial,congrArg (Value.int .i64) (wrap_i64 _ (by omega) (by omega))⟩,fun _=>fun _=> ?_⟩
    have hlt:x1.1<l.length:=(List.getElem?_eq_some_iff.1 hq).1
    have hdt:=drop_take (k:=k) hq
    have heq:x2.1=k:=by simpa using h4
    rw [if_pos heq] at hdt
    exact ⟨(x1.1+1,x1.2),⟨hlt,by (try dsimp only);rw [hdt,ho];simp [pvs]⟩,by (try dsimp only);omega,rfl,rfl,rfl,rfl,rfl,congrArg (Value.int .i64) (by (try dsimp only);omega),rfl,rfl,trivial⟩
  refine ⟨xlenK Try.sk41 3 x1.2.1,xlenK Try.sk41 3 r.1,?_⟩
  unfold ref12_Drop_raw_Q
  have hje:x1.1=l.length:=by (try simp only [decide_eq_true_eq,decide_eq_false_iff_not,gt_iff_lt,ge_iff_le,Int.not_lt,Int.not_le] at *);omega
  rw [hje,List.take_length] at ho
  have hvy:=vlen_sv x1.2.1;rw [ho,pvs_len] at hvy
  exact ⟨x1.2,ho,by rw [hvy,hvl],rfl,rfl,trivial⟩
noncomputable def ref12_Drop_C:List Value->List Slot->Ctr:=fun vs hs=>⟨KV×Slc,fun zx=> .tuple #[.slice zx.2.1 zx.2.2.1 zx.2.2.2, .bool (decide ((((pDrop (blp (skv (sarg hs 0)) (varg vs 1)) (ci (varg vs 2))).length:Nat):Int)<(((blp (skv (sarg hs 0)) (varg vs 1)).length:Nat):Int)))],fun zx=> [(bagK 2 77 zx.1)],fun zx=>NewB (skv (sarg hs 0)) (pDrop (blp (skv (sarg hs 0)) (varg vs 1)) (ci (varg vs 2))) zx⟩
theorem ref12_Drop (bm:KV) (v:Value) (k:Int) (hb:InBag bm v (pvs (blp bm v))) (hn:(blp bm v).length<=200):CallT Try.prog 16 #[v, .int .i64 k] [(bagK 2 77 bm)] (KV×Slc) (fun zx=> .tuple #[.slice zx.2.1 zx.2.2.1 zx.2.2.2, .bool (decide ((((pDrop (blp bm v) k).length:Nat):Int)<(((blp bm v).length:Nat):Int)))]) (fun zx=> [(bagK 2 77 zx.1)]) (fun zx=>(NewB bm (pDrop (blp bm v) k) zx)):=by
  refine (bagK_new (k:=2) (g:=fun v' => .tuple #[v', .bool (decide ((((pDrop (blp bm v) k).length:Nat):Int)<(((blp bm v).length:Nat):Int)))]) (Ψ:=fun q=>q=pvs (pDrop (blp bm v) k)) (enterOK (c:=bodyOf Try.f16) Try.func16 (by kernel_rfl) (by kernel_rfl)) hb fun r hs hv=> ?_).imp (fun _ _ h=>h) fun x R w h ho=>⟨x,newB_of h,rfl,ho⟩
  subst hs
  exact ref12_Drop_raw r _ k hv hn
abbrev ref12_Set_raw_Q (r:RK 2) (l:PL) (k x:Int) (zv:Value) (zs0:Slot) (zs1:Slot):Prop:= ∃zx:RK 2,(vals zx.1=pvs (pSet l k x))/\zv=sv zx.1/\zs0=(sk 77 r.1)/\zs1=(sk 77 zx.1)/\True
set_option maxRecDepth 100000 in
theorem ref12_Set_raw_vc (r:RK 2) (l:PL) (k x:Int):codeW Try.prog 49 none 2000 none (bodyOf Try.f14) (.reg [S0] (.reg [S0] (.reg [S0] (.reg [S0, .eq (f_len),S0] (.inv (Nat×RK 2×Bool) (fun zx=> [(0,sv r.1),(1, .int .i64 k),(2, .int .i64 x),(7,sv zx.2.1.1),(8, .bool zx.2.2),(11,sv r.1),(12, .int .i64 ((vlen (sv r.1):Nat):Int)),(13, .int .i64 ((zx.1:Nat):Int))]) (fun zx=> [(0,(sk 77 r.1)),(40,(sk 77 zx.2.1.1))]) (fun zx=>zx.1<=l.length/\vals zx.2.1.1=pvs ((l.take (zx.1)).foldl (setS k x) ([],false)).1/\zx.2.2=((l.take (zx.1)).foldl (setS k x) ([],false)).2) (fun zx=>l.length - zx.1) (fun x1=> .reg [S0] (.cond (.reg [.eq (f_idxK 2), .specr [0] (F_getK 2 p2V), .sem [.nw 1], .sem [.wr 1, .wr 1]] (.caseP (fun s=> !(cb (s.fr 8))) (.reg [S0, .gen [] (Sx.one (.bool true)),S0,S0, .sem [.rd 1],S0,S0,S0] (.cond (.reg [S0,S0,S0,S0, .sem [.nw 2], .specw [40,2] [40,2] (F_appK 2 77),S0] (.reg [S0] (.reg [S0, .sem [.rd 1],S0,S0] (.cond (.reg [S0, .sem [.rd 1, .rd 1], .sem [.nw 3], .specw [40,3] [40,3] (F_appK 2 77),S0] (.reg [.gen [] (fun vs=>Sx.one (.int .i64 (ci (varg vs 0)+ci (varg vs 1))) vs),S0] (.done))) (.reg [.gen [] (fun vs=>Sx.one (.int .i64 (ci (varg vs 0)+ci (varg vs 1))) vs),S0] (.done)))))) (.reg [S0, .sem [.rd 1],S0,S0] (.cond (.reg [S0, .sem [.rd 1, .rd 1], .sem [.nw 3], .specw [40,3] [40,3] (F_appK 2 77),S0] (.reg [.gen [] (fun vs=>Sx.one (.int .i64 (ci (varg vs 0)+ci (varg vs 1))) vs),S0] (.done))) (.reg [.gen [] (fun vs=>Sx.one (.int .i64 (ci (varg vs 0)+ci (varg vs 1))) vs),S0] (.done)))))) (.reg [S0, .gen [] (Sx.one (.bool false)),S0, .no, .no, .no, .no,S0] (.condF (.reg [S0, .sem [.rd 1],S0,S0] (.cond (.reg [S0, .sem [.rd 1, .rd 1], .sem [.nw 3], .specw [40,3] [40,3] (F_appK 2 77),S0] (.reg [.gen [] (fun vs=>Sx.one (.int .i64 (ci (varg vs 0)+ci (varg vs 1))) vs),S0] (.done))) (.reg [.gen [] (fun vs=>Sx.one (.int .i64 (ci (varg vs 0)+ci (varg vs 1))) vs),S0] (.done)))))))) (.reg [S0,S0] (.cond (.reg [S0,S0,S0,S0, .sem [.nw 4], .specw [40,4] [40,4] (F_appK 2 77),S0] (.reg [S0,S0] (.done))) (.reg [S0,S0] (.done)))))))))))
    (init #[sv r.1, .int .i64 k, .int .i64 x] [(sk 77 r.1)]) (finW Try.prog Try.f14 [] [0,40] (X:=RK 2) (fun zx=>sv zx.1) (fun zx=> [(sk 77 r.1),(sk 77 zx.1)]) (fun zx=>(vals zx.1=pvs (pSet l k x))))=
    ((PureRun Try.prog (vS (Builtin.len_ #[41] 3 #[sv r.1])) (.int .i64 ((vlen (sv r.1):Nat):Int)))/\(∃zx:Nat×RK 2×Bool,(zx.1<=l.length/\vals zx.2.1.1=pvs ((l.take (zx.1)).foldl (setS k x) ([],false)).1/\zx.2.2=((l.take (zx.1)).foldl (setS k x) ([],false)).2)/\sv r.1=sv r.1/\Value.int .i64 k= .int .i64 k/\Value.int .i64 x= .int .i64 x/\Value.slice none 0 0=sv zx.2.1.1/\Value.bool false= .bool zx.2.2/\sv r.1=sv r.1/\Value.int .i64 ((vlen (sv r.1):Nat):Int)= .int .i64 ((vlen (sv r.1):Nat):Int)/\Value.int .i64 0= .int .i64 ((zx.1:Nat):Int)/\(sk 77 r.1)=(sk 77 r.1)/\Slot.free=(sk 77 zx.2.1.1)/\True)/\ ∀x1:Nat×RK 2×Bool,∀jx1:Nat->Value,(x1.1<=l.length/\vals x1.2.1.1=pvs ((l.take (x1.1)).foldl (setS k x) ([],false)).1/\x1.2.2=((l.take (x1.1)).foldl (setS k x) ([],false)).2)->((decide (((x1.1:Nat):Int)<((vlen (sv r.1):Nat):Int)))=true->(PureRun Try.prog (vS (Instr.indexAt 41 (sv r.1) (.int .i64 ((x1.1:Nat):Int)))) (.pointer (some ⟨(vblk (sv r.1)),(Int.toNat ((x1.1:Nat):Int)*2),none⟩)))/\opQr Try.prog (vS (Instr.loadAt 77 (.pointer (some ⟨(vblk (sv r.1)),(Int.toNat ((x1.1:Nat):Int)*2),none⟩)))) [(sk 77 r.1)] (Int×Int) (fun zx=> .agg #[.int .i64 zx.1, .int .i64 zx.2]) (fun zx=>rdK 2 (scells (sk 77 r.1)) (Int.toNat ((x1.1:Nat):Int)*2)=p2V zx) (fun x2=> ∀b3:Nat,rdQ 2 b3 (((!x1.2.2)=true->(∃_:Unit,True/\Value.bool (!x1.2.2)= .bool true)/\ ∀_:Unit,(True)->true=true/\true=true/\rdQ 1 b3 (true=true/\true=true/\((decide (x2.1≥k))=true-> ∀b4:Nat,opQ Try.prog (vS (Builtin.append_ #[41,41] 41 #[sv x1.2.1.1, .slice (some ⟨b4,0,none⟩) 1 1])) [(sk 77 x1.2.1.1),bk b4 #[.int .i64 k, .int .i64 x] 77] (RK 2) (fun zx=>sv zx.1) (fun zx=> [(sk 77 zx.1),bk b4 #[.int .i64 k, .int .i64 x] 77]) (fun zx=>vals zx.1=kvals 2 (sv x1.2.1.1) (sk 77 x1.2.1.1)++ [.agg #[.int .i64 k, .int .i64 x]]) (fun x5=>rdQ 1 b3 (((x2.1 !=k)=true->rdQ 2 b3 (∀b6:Nat,opQ Try.prog (vS (Builtin.append_ #[41,41] 41 #[sv x5.1, .slice (some ⟨b6,0,none⟩) 1 1])) [(sk 77 x5.1),bk b6 #[.int .i64 x2.1, .int .i64 x2.2] 77] (RK 2) (fun zx=>sv zx.1) (fun zx=> [(sk 77 zx.1),bk b6 #[.int .i64 x2.1, .int .i64 x2.2] 77]) (fun zx=>vals zx.1=kvals 2 (sv x5.1) (sk 77 x5.1)++ [.agg #[.int .i64 x2.1, .int .i64 x2.2]]) (fun x7=>(∃_:Unit,True/\Value.int .i64 (IntKind.i64.wrap (((x1.1:Nat):Int)+1))= .int .i64 (((x1.1:Nat):Int)+1))/\ ∀_:Unit,(True)-> ∃zy:Nat×RK 2×Bool,(zy.1<=l.length/\vals zy.2.1.1=pvs ((l.take (zy.1)).foldl (setS k x) ([],false)).1/\zy.2.2=((l.take (zy.1)).foldl (setS k x) ([],false)).2)/\l.length - zy.1<l.length - x1.1/\sv r.1=sv r.1/\Value.int .i64 k= .int .i64 k/\Value.int .i64 x= .int .i64 x/\sv x7.1=sv zy.2.1.1/\Value.bool true= .bool zy.2.2/\sv r.1=sv r.1/\Value.int .i64 ((vlen (sv r.1):Nat):Int)= .int .i64 ((vlen (sv r.1):Nat):Int)/\Value.int .i64 (((x1.1:Nat):Int)+1)= .int .i64 ((zy.1:Nat):Int)/\(sk 77 r.1)=(sk 77 r.1)/\(sk 77 x7.1)=(sk 77 zy.2.1.1)/\True)))/\((x2.1 !=k)=false->(∃_:Unit,True/\Value.int .i64 (IntKind.i64.wrap (((x1.1:Nat):Int)+1))= .int .i64 (((x1.1:Nat):Int)+1))/\ ∀_:Unit,(True)-> ∃zy:Nat×RK 2×Bool,(zy.1<=l.length/\vals zy.2.1.1=pvs ((l.take (zy.1)).foldl (setS k x) ([],false)).1/\zy.2.2=((l.take (zy.1)).foldl (setS k x) ([],false)).2)/\l.length - zy.1<l.length - x1.1/\sv r.1=sv r.1/\Value.int .i64 k= .int .i64 k/\Value.int .i64 x= .int .i64 x/\sv x5.1=sv zy.2.1.1/\Value.bool true= .bool zy.2.2/\sv r.1=sv r.1/\Value.int .i64 ((vlen (sv r.1):Nat):Int)= .int .i64 ((vlen (sv r.1):Nat):Int)/\Value.int .i64 (((x1.1:Nat):Int)+1)= .int .i64 ((zy.1:Nat):Int)/\(sk 77 r.1)=(sk 77 r.1)/\(sk 77 x5.1)=(sk 77 zy.2.1.1)/\True))))/\((decide (x2.1≥k))=false->rdQ 1 b3 (((x2.1 !=k)=true->rdQ 2 b3 (∀b8:Nat,opQ Try.prog (vS (Builtin.append_ #[41,41] 41 #[sv x1.2.1.1, .slice (some ⟨b8,0,none⟩) 1 1])) [(sk 77 x1.2.1.1),bk b8 #[.int .i64 x2.1, .int .i64 x2.2] 77] (RK 2) (fun zx=>sv zx.1) (fun zx=> [(sk 77 zx.1),bk b8 #[.int .i64 x2.1, .int .i64 x2.2] 77]) (fun zx=>vals zx.1=kvals 2 (sv x1.2.1.1) (sk 77 x1.2.1.1)++ [.agg #[.int .i64 x2.1, .int .i64 x2.2]]) (fun x9=>(∃_:Unit,True/\Value.int .i64 (IntKind.i64.wrap (((x1.1:Nat):Int)+1))= .int .i64 (((x1.1:Nat):Int)+1))/\ ∀_:Unit,(True)-> ∃zy:Nat×RK 2×Bool,(zy.1<=l.length/\vals zy.2.1.1=pvs ((l.take (zy.1)).foldl (setS k x) ([],false)).1/\zy.2.2=((l.take (zy.1)).foldl (setS k x) ([],false)).2)/\l.length - zy.1<l.length - x1.1/\sv r.1=sv r.1/\Value.int .i64 k= .int .i64 k/\Value.int .i64 x= .int .i64 x/\sv x9.1=sv zy.2.1.1/\Value.bool x1.2.2= .bool zy.2.2/\sv r.1=sv r.1/\Value.int .i64 ((vlen (sv r.1):Nat):Int)= .int .i64 ((vlen (sv r.1):Nat):Int)/\Value.int .i64 (((x1.1:Nat):Int)+1)= .int .i64 ((zy.1:Nat):Int)/\(sk 77 r.1)=(sk 77 r.1)/\(sk 77 x9.1)=(sk 77 zy.2.1.1)/\True)))/\((x2.1 !=k)=false->(∃_:Unit,True/\Value.int .i64 (IntKind.i64.wrap (((x1.1:Nat):Int)+1))= .int .i64 (((x1.1:Nat):Int)+1))/\ ∀_:Unit,(True)-> ∃zy:Nat×RK 2×Bool,(zy.1<=l.length/\vals zy.2.1.1=pvs ((l.take (zy.1)).foldl (setS k x) ([],false)).1/\zy.2.2=((l.take (zy.1)).foldl (setS k x) ([],false)).2)/\l.length - zy.1<l.length - x1.1/\sv r.1=sv r.1/\Value.int .i64 k= .int .i64 k/\Value.int .i64 x= .int .i64 x/\sv x1.2.1.1=sv zy.2.1.1/\Value.bool x1.2.2= .bool zy.2.2/\sv r.1=sv r.1/\Value.int .i64 ((vlen (sv r.1):Nat):Int)= .int .i64 ((vlen (sv r.1):Nat):Int)/\Value.int .i64 (((x1.1:Nat):Int)+1)= .int .i64 ((zy.1:Nat):Int)/\(sk 77 r.1)=(sk 77 r.1)/\(sk 77 x1.2.1.1)=(sk 77 zy.2.1.1)/\True)))))/\((!x1.2.2)=false->(∃_:Unit,True/\Value.bool (!x1.2.2)= .bool false)/\ ∀_:Unit,(True)->false= !true/\false= !true/\false= !true/\false= !true/\(false=false)/\rdQ 1 b3 (((x2.1 !=k)=true->rdQ 2 b3 (∀b10:Nat,opQ Try.prog (vS (Builtin.append_ #[41,41] 41 #[sv x1.2.1.1, .slice (some ⟨b10,0,none⟩) 1 1])) [(sk 77 x1.2.1.1),bk b10 #[.int .i64 x2.1, .int .i64 x2.2] 77] (RK 2) (fun zx=>sv zx.1) (fun zx=> [(sk 77 zx.1),bk b10 #[.int .i64 x2.1, .int .i64 x2.2] 77]) (fun zx=>vals zx.1=kvals 2 (sv x1.2.1.1) (sk 77 x1.2.1.1)++ [.agg #[.int .i64 x2.1, .int .i64 x2.2]]) (fun x11=>(∃_:Unit,True/\Value.int .i64 (IntKind.i64.wrap (((x1.1:Nat):Int)+1))= .int .i64 (((x1.1:Nat):Int)+1))/\ ∀_:Unit,(True)-> ∃zy:Nat×RK 2×Bool,(zy.1<=l.length/\vals zy.2.1.1=pvs ((l.take (zy.1)).foldl (setS k x) ([],false)).1/\zy.2.2=((l.take (zy.1)).foldl (setS k x) ([],false)).2)/\l.length - zy.1<l.length - x1.1/\sv r.1=sv r.1/\Value.int .i64 k= .int .i64 k/\Value.int .i64 x= .int .i64 x/\sv x11.1=sv zy.2.1.1/\Value.bool x1.2.2= .bool zy.2.2/\sv r.1=sv r.1/\Value.int .i64 ((vlen (sv r.1):Nat):Int)= .int .i64 ((vlen (sv r.1):Nat):Int)/\Value.int .i64 (((x1.1:Nat):Int)+1)= .int .i64 ((zy.1:Nat):Int)/\(sk 77 r.1)=(sk 77 r.1)/\(sk 77 x11.1)=(sk 77 zy.2.1.1)/\True)))/\((x2.1 !=k)=false->(∃_:Unit,True/\Value.int .i64 (IntKind.i64.wrap (((x1.1:Nat):Int)+1))= .int .i64 (((x1.1:Nat):Int)+1))/\ ∀_:Unit,(True)-> ∃zy:Nat×RK 2×Bool,(zy.1<=l.length/\vals zy.2.1.1=pvs ((l.take (zy.1)).foldl (setS k x) ([],false)).1/\zy.2.2=((l.take (zy.1)).foldl (setS k x) ([],false)).2)/\l.length - zy.1<l.length - x1.1/\sv r.1=sv r.1/\Value.int .i64 k= .int .i64 k/\Value.int .i64 x= .int .i64 x/\sv x1.2.1.1=sv zy.2.1.1/\Value.bool x1.2.2= .bool zy.2.2/\sv r.1=sv r.1/\Value.int .i64 ((vlen (sv r.1):Nat):Int)= .int .i64 ((vlen (sv r.1):Nat):Int)/\Value.int .i64 (((x1.1:Nat):Int)+1)= .int .i64 ((zy.1:Nat):Int)/\(sk 77 r.1)=(sk 77 r.1)/\(sk 77 x1.2.1.1)=(sk 77 zy.2.1.1)/\True))))))/\((decide (((x1.1:Nat):Int)<((vlen (sv r.1):Nat):Int)))=false->((!x1.2.2)=true-> ∀b12:Nat,opQ Try.prog (vS (Builtin.append_ #[41,41] 41 #[sv x1.2.1.1, .slice (some ⟨b12,0,none⟩) 1 1])) [(sk 77 x1.2.1.1),bk b12 #[.int .i64 k, .int .i64 x] 77] (RK 2) (fun zx=>sv zx.1) (fun zx=> [(sk 77 zx.1),bk b12 #[.int .i64 k, .int .i64 x] 77]) (fun zx=>vals zx.1=kvals 2 (sv x1.2.1.1) (sk 77 x1.2.1.1)++ [.agg #[.int .i64 k, .int .i64 x]]) (fun x13=>ref12_Set_raw_Q r l k x (sv x13.1) (sk 77 r.1) (sk 77 x13.1)))/\((!x1.2.2)=false->ref12_Set_raw_Q r l k x (sv x1.2.1.1) (sk 77 r.1) (sk 77 x1.2.1.1)))):=by kernel_rfl
set_option maxRecDepth 100000 in
theorem ref12_Set_raw (r : RK 2) (l : PL) (k x : Int) (hv : vals r.1 = pvs l) (hn : l.length <= 200) : CallT Try.prog 14 #[sv r.1, .int .i64 k, .int .i64 x] [(sk 77 r.1)] (RK 2) (fun zx => sv zx.1) (fun zx => [(sk 77 r.1), (sk 77 zx.1)]) (fun zx => (vals zx.1 = pvs (pSet l k x))) := by
  refine call_of (c:=bodyOf Try.f14) (n:=49) (fn:=Try.f14) Try.mixed Try.func14 (by kernel_rfl) (by kernel_rfl) (by kernel_rfl) 2000 _ [] [0,40] rfl rfl (Eq.mpr (ref12_Set_raw_vc r l k x) ?_)
  have hvl:=vlen_sv r.1;rw [hv,pvs_len] at hvl
  refine ⟨xlenK Try.sk41 3 r.1,⟨?_,fun x1 jx1 h1=> ?_⟩⟩
  · exact ⟨(0,RK.nil 2,false),⟨Nat.zero_le _,rfl,rfl⟩,rfl,rfl,rfl,rfl,rfl,rfl,rfl,rfl,rfl,rfl,trivial⟩
  obtain ⟨hj,ho,hd⟩:=h1
  have hol:(vals x1.2.1.1).length<=400:=by rw [ho,pvs_len];have:=set_len (k:=k) (v:=x) (l.take x1.1) ([],false);rw [List.length_take] at this;simp at this;omega
  refine ⟨fun h2=> ?_,fun h2=> ?_⟩
  · refine ⟨xidxK Try.sk41 r.1 .i64 ((x1.1 : Nat) : Int) (by (try simp only [decide_eq_true_eq, decide_eq_false_iff_not, gt_iff_lt, ge_iff_le, Int.not_lt, Int.not_le] at *); omega) (by (rw [← vlen_sv]; try simp only [decide_eq_true_eq, decide_eq_false_iff_not, gt_iff_lt, ge_iff_le, Int.not_lt, Int.not_le] at *); omega), opQr_mk (xgetKV Try.sk41 p2V r (Int.toNat ((x1.1 : Nat) : Int)) (pvs_at hv (by (try simp only [decide_eq_true_eq, decide_eq_false_iff_not, gt_iff_lt, ge_iff_le, Int.not_lt, Int.not_le] at *); omega))) (wgetKV (pvs_at hv (by (try simp only [decide_eq_true_eq, decide_eq_false_iff_not, gt_iff_lt, ge_iff_le, Int.not_lt, Int.not_le] at *); omega))) fun x2 h3 => ?_⟩
    replace h3:=egetKV (pvs_at hv (by (try simp only [decide_eq_true_eq,decide_eq_false_iff_not,gt_iff_lt,ge_iff_le,Int.not_lt,Int.not_le] at *);omega)) h3
    have hq:=pvs_get hv h3
    try rw [Int.toNat_natCast] at hq
    intro b3
    refine rdQ_mk 2 _ ⟨fun h4=> ?_,fun h4=> ?_⟩
    · refine ⟨⟨(),trivial,congrArg Value.bool h4⟩,fun _=>fun _=>⟨rfl,rfl,rdQ_mk 1 _ ⟨rfl,rfl,⟨fun h5=> ?_,fun h5=> ?_⟩⟩⟩⟩
      · intro b4
        refine opQ_mk (xappendK Try.sk41 41 x1.2.1 (by omega) b4 1 #[.int .i64 k, .int .i64 x] rfl (List.all_eq_true.1 rfl)) (wit_appK (kvals_all x1.2.1 _) rfl) fun x5 h6=> ?_
        rw [kvals_eq] at h6
        have ha_h6:=h6
        have hl_h6:=congrArg List.length ha_h6;rw [List.length_append,List.length_singleton] at hl_h6
        refine rdQ_mk 1 _ ⟨fun h7=> ?_,fun h7=> ?_⟩
        · refine rdQ_mk 2 _ (fun b6=>opQ_mk (xappendK Try.sk41 41 x5 (by omega) b6 1 #[.int .i64 x2.1, .int .i64 x2.2] rfl (List.all_eq_true.1 rfl)) (wit_appK (kvals_all x5 _) rfl) fun x7 h8=> ?_)
          rw [kvals_eq] at h8
          have ha_h8:=h8
          have hl_h8:=congrArg List.length ha_h8;rw [List.length_append,List.length_singleton] at hl_h8
          refine ⟨⟨(),trivial,congrArg (Value.int .i64) (wrap_i64 _ (by omega) (by omega))⟩,fun _=>fun _=> ?_⟩
          have hlt:x1.1<l.length:=(List.getElem?_eq_some_iff.1 hq).1
          have hst:=set_take (k:=k) (v:=x) hq
          have hne:x2.1≠k:=by simpa using h7
          have hS:vals x7.1=pvs ((l.take (x1.1+1)).foldl (setS k x) ([],false)).1/\true=((l.take (x1.1+1)).foldl (setS k x) ([],false)).2:=by
            rw [hst,setS_in (⟨by rw [←hd];simpa using h4,by (try simp only [decide_eq_true_eq,decide_eq_false_iff_not,gt_iff_lt,ge_iff_le,Int.not_lt,Int.not_le] at *);omega⟩) hne]
            exact ⟨by rw [ha_h8,ha_h6,ho];(try simp [pvs]),rfl⟩
          exact ⟨(x1.1+1,x7,true),⟨hlt,hS⟩,by (try dsimp only);omega,rfl,rfl,rfl,rfl,rfl,rfl,rfl,congrArg (Value.int .i64) (by (try dsimp only);omega),rfl,rfl,trivial⟩
        refine ⟨⟨(),trivial,congrArg (Value.int .i64) (wrap_i64 _ (by omega) (by omega))⟩,fun _=>fun _=> ?_⟩
        have hlt:x1.1<l.length:=(List.getElem?_eq_some_iff.1 hq).1
        have hst:=set_take (k:=k) (v:=x) hq
        have hne:x2.1=k:=by simpa using h7
        have hS:vals x5.1=pvs ((l.take (x1.1+1)).foldl (setS k x) ([],false)).1/\true=((l.take (x1.1+1)).foldl (setS k x) ([],false)).2:=by
          rw [hst,setS_ie (⟨by rw [←hd];simpa using h4,by (try simp only [decide_eq_true_eq,decide_eq_false_iff_not,gt_iff_lt,ge_iff_le,Int.not_lt,Int.not_le] at *);omega⟩) hne]
          exact ⟨by rw [ha_h6,ho];(try simp [pvs]),rfl⟩
        exact ⟨(x1.1+1,x5,true),⟨hlt,hS⟩,by (try dsimp only);omega,rfl,rfl,rfl,rfl,rfl,rfl,rfl,congrArg (Value.int .i64) (by (try dsimp only);omega),rfl,rfl,trivial⟩
      refine rdQ_mk 1 _ ⟨fun h9=> ?_,fun h9=> ?_⟩
      · refine rdQ_mk 2 _ (fun b8=>opQ_mk (xappendK Try.sk41 41 x1.2.1 (by omega) b8 1 #[.int .i64 x2.1, .int .i64 x2.2] rfl (List.all_eq_true.1 rfl)) (wit_appK (kvals_all x1.2.1 _) rfl) fun x9 h10=> ?_)
        rw [kvals_eq] at h10
        have ha_h10:=h10
        have hl_h10:=congrArg List.length ha_h10;rw [List.length_append,List.length_singleton] at hl_h10
        refine ⟨⟨(),trivial,congrArg (Value.int .i64) (wrap_i64 _ (by omega) (by omega))⟩,fun _=>fun _=> ?_⟩
        have hlt:x1.1<l.length:=(List.getElem?_eq_some_iff.1 hq).1
        have hst:=set_take (k:=k) (v:=x) hq
        have hne:x2.1≠k:=by simpa using h9
        have hS:vals x9.1=pvs ((l.take (x1.1+1)).foldl (setS k x) ([],false)).1/\x1.2.2=((l.take (x1.1+1)).foldl (setS k x) ([],false)).2:=by
          rw [hst,setS_kn (fun q=>(by have q2:=q.2;(try simp only [decide_eq_true_eq,decide_eq_false_iff_not,gt_iff_lt,ge_iff_le,Int.not_lt,Int.not_le] at *);omega)) hne]
          exact ⟨by rw [ha_h10,ho];(try simp [pvs]),hd⟩
        exact ⟨(x1.1+1,x9,x1.2.2),⟨hlt,hS⟩,by (try dsimp only);omega,rfl,rfl,rfl,rfl,rfl,rfl,rfl,congrArg (Value.int .i64) (by (try dsimp only);omega),rfl,rfl,trivial⟩
      refine ⟨⟨(),trivial,congrArg (Value.int .i64) (wrap_i64 _ (by omega) (by omega))⟩,fun _=>fun _=> ?_⟩
      have hlt:x1.1<l.length:=(List.getElem?_eq_some_iff.1 hq).1
      have hst:=set_take (k:=k) (v:=x) hq
      have hne:x2.1=k:=by simpa using h9
      have hS:vals x1.2.1.1=pvs ((l.take (x1.1+1)).foldl (setS k x) ([],false)).1/\x1.2.2=((l.take (x1.1+1)).foldl (setS k x) ([],false)).2:=by
        rw [hst,setS_ke (fun q=>(by have q2:=q.2;(try simp only [decide_eq_true_eq,decide_eq_false_iff_not,gt_iff_lt,ge_iff_le,Int.not_lt,Int.not_le] at *);omega)) hne]
        exact ⟨by rw [ho];(try simp [pvs]),hd⟩
      exact ⟨(x1.1+1,x1.2.1,x1.2.2),⟨hlt,hS⟩,by (try dsimp only);omega,rfl,rfl,rfl,rfl,rfl,rfl,rfl,congrArg (Value.int .i64) (by (try dsimp only);omega),rfl,rfl,trivial⟩
    refine ⟨⟨(),trivial,congrArg Value.bool h4⟩,fun _=>fun _=>⟨rfl,rfl,rfl,rfl,⟨rfl,rdQ_mk 1 _ ⟨fun h11=> ?_,fun h11=> ?_⟩⟩⟩⟩
    · refine rdQ_mk 2 _ (fun b10=>opQ_mk (xappendK Try.sk41 41 x1.2.1 (by omega) b10 1 #[.int .i64 x2.1, .int .i64 x2.2] rfl (List.all_eq_true.1 rfl)) (wit_appK (kvals_all x1.2.1 _) rfl) fun x11 h12=> ?_)
      rw [kvals_eq] at h12
      have ha_h12:=h12
      have hl_h12:=congrArg List.length ha_h12;rw [List.length_append,List.length_singleton] at hl_h12
      refine ⟨⟨(),trivial,congrArg (Value.int .i64) (wrap_i64 _ (by omega) (by omega))⟩,fun _=>fun _=> ?_⟩
      have hlt:x1.1<l.length:=(List.getElem?_eq_some_iff.1 hq).1
      have hst:=set_take (k:=k) (v:=x) hq
      have hne:x2.1≠k:=by simpa using h11
      have hS:vals x11.1=pvs ((l.take (x1.1+1)).foldl (setS k x) ([],false)).1/\x1.2.2=((l.take (x1.1+1)).foldl (setS k x) ([],false)).2:=by
        rw [hst,setS_kn (fun q=>(by rw [←hd] at q;have q2:=q.1;rw [q2] at h4;cases h4)) hne]
        exact ⟨by rw [ha_h12,ho];(try simp [pvs]),hd⟩
      exact ⟨(x1.1+1,x11,x1.2.2),⟨hlt,hS⟩,by (try dsimp only);omega,rfl,rfl,rfl,rfl,rfl,rfl,rfl,congrArg (Value.int .i64) (by (try dsimp only);omega),rfl,rfl,trivial⟩
    refine ⟨⟨(),trivial,congrArg (Value.int .i64) (wrap_i64 _ (by omega) (by omega))⟩,fun _=>fun _=> ?_⟩
    have hlt:x1.1<l.length:=(List.getElem?_eq_some_iff.1 hq).1
    have hst:=set_take (k:=k) (v:=x) hq
    have hne:x2.1=k:=by simpa using h11
    have hS:vals x1.2.1.1=pvs ((l.take (x1.1+1)).foldl (setS k x) ([],false)).1/\x1.2.2=((l.take (x1.1+1)).foldl (setS k x) ([],false)).2:=by
      rw [hst,setS_ke (fun q=>(by rw [←hd] at q;have q2:=q.1;rw [q2] at h4;cases h4)) hne]
      exact ⟨by rw [ho];(try simp [pvs]),hd⟩
    exact ⟨(x1.1+1,x1.2.1,x1.2.2),⟨hlt,hS⟩,by (try dsimp only);omega,rfl,rfl,rfl,rfl,rfl,rfl,rfl,congrArg (Value.int .i64) (by (try dsimp only);omega),rfl,rfl,trivial⟩
  refine ⟨fun h13=> ?_,fun h13=> ?_⟩
  · intro b12
    refine opQ_mk (xappendK Try.sk41 41 x1.2.1 (by omega) b12 1 #[.int .i64 k, .int .i64 x] rfl (List.all_eq_true.1 rfl)) (wit_appK (kvals_all x1.2.1 _) rfl) fun x13 h14=> ?_
    rw [kvals_eq] at h14
    have ha_h14:=h14
    have hl_h14:=congrArg List.length ha_h14;rw [List.length_append,List.length_singleton] at hl_h14
    unfold ref12_Set_raw_Q
    have hje:x1.1=l.length:=by (try simp only [decide_eq_true_eq,decide_eq_false_iff_not,gt_iff_lt,ge_iff_le,Int.not_lt,Int.not_le] at *);omega
    rw [hje,List.take_length] at ho hd
    have hI:vals x13.1=pvs (pSet l k x):=by
      unfold pSet finS
      rw [←hd,show x1.2.2=false by simpa using h13]
      rw [ha_h14,ho];simp [pvs]
    exact ⟨x13,hI,rfl,rfl,rfl,trivial⟩
  unfold ref12_Set_raw_Q
  have hje:x1.1=l.length:=by (try simp only [decide_eq_true_eq,decide_eq_false_iff_not,gt_iff_lt,ge_iff_le,Int.not_lt,Int.not_le] at *);omega
  rw [hje,List.take_length] at ho hd
  have hI:vals x1.2.1.1=pvs (pSet l k x):=by
    unfold pSet finS
    rw [←hd,show x1.2.2=true by simpa using h13]
    exact ho
  exact ⟨x1.2.1,hI,rfl,rfl,rfl,trivial⟩
noncomputable def ref12_Set_C:List Value->List Slot->Ctr:=fun vs hs=>⟨KV×Slc,fun zx=> .slice zx.2.1 zx.2.2.1 zx.2.2.2,fun zx=> [(bagK 2 77 zx.1)],fun zx=>NewB (skv (sarg hs 0)) (pSet (blp (skv (sarg hs 0)) (varg vs 1)) (ci (varg vs 2)) (ci (varg vs 3))) zx⟩
theorem ref12_Set (bm:KV) (v:Value) (k x:Int) (hb:InBag bm v (pvs (blp bm v))) (hn:(blp bm v).length<=200):CallT Try.prog 14 #[v, .int .i64 k, .int .i64 x] [(bagK 2 77 bm)] (KV×Slc) (fun zx=> .slice zx.2.1 zx.2.2.1 zx.2.2.2) (fun zx=> [(bagK 2 77 zx.1)]) (fun zx=>(NewB bm (pSet (blp bm v) k x) zx)):=by
  refine (bagK_new (k:=2) (g:=fun v' =>v') (Ψ:=fun q=>q=pvs (pSet (blp bm v) k x)) (enterOK (c:=bodyOf Try.f14) Try.func14 (by kernel_rfl) (by kernel_rfl)) hb fun r hs hv=> ?_).imp (fun _ _ h=>h) fun x R w h ho=>⟨x,newB_of h,rfl,ho⟩
  subst hs
  exact ref12_Set_raw r _ k x hv hn
theorem law12_sameT (a r:RK 2) (l:PL) (n:Nat) (ha:vals a.1=pvs (l.take n)) (hv:vals r.1=pvs l) (hn:n<=l.length) (hl:l.length<=1048576):CallT Try.prog 37 #[sv a.1,vtake (sv r.1) n] [sk 77 a.1,sk 77 r.1] Unit (fun _=> .bool true) (fun _=> [sk 77 a.1,sk 77 r.1]) (fun _=>True):=by
  rw [vtake_sv r.1 n (by rw [hv,pvs_len];exact hn),←sk_take r 77 n]
  exact law12_same a (r.take n) (same_ha ha) (by rw [ha,vals_takeK,hv,pvs_take]) (by rw [ha,pvs_len,List.length_take];omega)
abbrev law12_is_raw_Q (b bj:Nat) (m:KV) (r:RK 2) (l:PL) (most:Int) (zv:Value) (zs0:Slot) (zs1:Slot):Prop:= ∃_:Unit,(True)/\zv= .bool true/\zs0=(mS Try.mk75 b bj m)/\zs1=(sk 77 r.1)/\True
set_option maxRecDepth 100000 in
theorem law12_is_raw_vc (b bj:Nat) (m:KV) (r:RK 2) (l:PL) (most:Int):codeW Try.prog 81 none 2000 none (bodyOf Try.f21) (.reg [S0] (.reg [S0, .calln [0] [40] keys_Keys75_C,S0] (.reg [S0, .callr [0] stage_Len75_C,S0, .eq (f_len), .gen [] (Sx.one (.bool false)),S0,S0, .eq (f_len),S0, .eq (f_len), .gen [] (Sx.one (.bool false)),S0,S0,S0, .calln [0] [41,42,43,44] keys_All75_C,S0, .eq (f_len), .gen [] (fun vs=>Sx.one (.int .i64 (ci (varg vs 0)+ci (varg vs 1))) vs), .calln [41,42,43,44] [45] law12_pairsX_C,S0, .callr [45,1] (fun _ hs=>⟨Unit,fun _=> .bool true,fun _=>hs,fun _=>True⟩),S0,S0] (.condF (.reg [S0, .eq (f_len),S0] (.inv (Nat×Row) (fun zx=> [(0,pp b 0),(1,sv r.1),(2, .int .i64 most),(7,sv zx.2),(37,sv r.1),(38, .int .i64 ((vlen (sv r.1):Nat):Int)),(39, .int .i64 ((zx.1:Nat):Int))]) (fun zx=> [(0,(mS Try.mk75 b bj m)),(1,(sk 77 r.1)),(40,(ss 3 zx.2))]) (fun zx=>zx.1<=l.length/\vals zx.2=l.map (fun p=>iv p.1)) (fun zx=>l.length - zx.1) (fun x5=> .reg [S0] (.cond (.reg [S0, .eq (f_idxK 2), .specr [1] (F_getK 2 p2V), .sem [.nw 8],S0, .sem [.wr 8, .wr 8]] (.reg [S0,S0, .sem [.rd 8], .callr [0] stage_Get75_C,S0,S0,S0,S0,S0] (.reg [S0,S0, .eq (f_idx), .specr [40] (F_getV (Value.int .i64)),S0, .sem [.rd 8], .gen [] (Sx.one (.bool false)),S0,S0,S0, .sem [.rd 8], .gen [] (Sx.one (.bool false)),S0,S0,S0, .gen [] (Sx.one (.bool false)),S0] (.condF (.reg [.gen [] (fun vs=>Sx.one (.int .i64 (ci (varg vs 0)+ci (varg vs 1))) vs),S0] (.done)))))) (.reg [S0, .calln [0] [51,52,53,54] keys_All75_C,S0, .calln [51,52,53,54] [55] law12_pairsX_C,S0,S0,S0, .eq (f_len),S0,S0, .eq (f_take), .callr [55,1] (fun _ hs=>⟨Unit,fun _=> .bool true,fun _=>hs,fun _=>True⟩),S0] (.done))))))))))
    (init #[pp b 0,sv r.1, .int .i64 most] [(mS Try.mk75 b bj m),(sk 77 r.1)]) (finW Try.prog Try.f21 [] [0,1] (X:=Unit) (fun _=> .bool true) (fun _=> [(mS Try.mk75 b bj m),(sk 77 r.1)]) (fun _=>True))=
    (callQ Try.prog 35 #[pp b 0] [(mS Try.mk75 b bj m)] Row (fun zx=>sv zx) (fun zx=> [(mS Try.mk75 b bj m),(ss 3 zx)]) (fun zx=>KeysOf .i64 m (vals zx)) (fun x1=>callQr Try.prog 36 #[pp b 0] [(mS Try.mk75 b bj m)] Int (fun zx=> .int .i64 zx) (fun zx=>zx=((m.length:Nat):Int)) (fun x2=>(PureRun Try.prog (vS (Builtin.len_ #[41] 3 #[sv r.1])) (.int .i64 ((vlen (sv r.1):Nat):Int)))/\(∃_:Unit,True/\Value.bool (x2 !=((vlen (sv r.1):Nat):Int))= .bool false)/\ ∀_:Unit,(True)->false=false/\false=false/\(PureRun Try.prog (vS (Builtin.len_ #[82] 3 #[sv x1])) (.int .i64 ((vlen (sv x1):Nat):Int)))/\false=false/\false=false/\(PureRun Try.prog (vS (Builtin.len_ #[41] 3 #[sv r.1])) (.int .i64 ((vlen (sv r.1):Nat):Int)))/\false=false/\(∃_:Unit,True/\Value.bool (((vlen (sv x1):Nat):Int) !=((vlen (sv r.1):Nat):Int))= .bool false)/\ ∀_:Unit,(True)->false=false/\false=false/\callQ Try.prog 39 #[pp b 0] [(mS Try.mk75 b bj m)] (Nat×Nat×Nat×Row) (fun zx=> .func (.func 54) #[] #[pp zx.1 0,pp zx.2.1 0]) (fun zx=> [(mS Try.mk75 b bj m),bk zx.1 #[sv zx.2.2.2] 82,(ss 3 zx.2.2.2),bk zx.2.1 #[.map (some zx.2.2.1)] 73,(mo zx.2.2.1 m)]) (fun zx=>KeysOf .i64 m (vals zx.2.2.2)) (fun x3=>false=false/\false=false/\(PureRun Try.prog (vS (Builtin.len_ #[41] 3 #[sv r.1])) (.int .i64 ((vlen (sv r.1):Nat):Int)))/\false=false/\(∃_:Unit,True/\Value.int .i64 (IntKind.i64.wrap (((vlen (sv r.1):Nat):Int)+1))= .int .i64 (((vlen (sv r.1):Nat):Int)+1))/\ ∀_:Unit,(True)->false=false/\callQ Try.prog 38 #[.func (.func 54) #[] #[pp x3.1 0,pp x3.2.1 0], .int .i64 (((vlen (sv r.1):Nat):Int)+1)] [bk x3.1 #[sv x3.2.2.2] 82,(ss 3 x3.2.2.2),bk x3.2.1 #[.map (some x3.2.2.1)] 73,(mo x3.2.2.1 m)] (RK 2) (fun zx=>sv zx.1) (fun zx=> [bk x3.1 #[sv x3.2.2.2] 82,(ss 3 x3.2.2.2),bk x3.2.1 #[.map (some x3.2.2.1)] 73,(mo x3.2.2.1 m),(sk 77 zx.1)]) (fun zx=>vals zx.1=List.take (Int.toNat (((vlen (sv r.1):Nat):Int)+1)) (pairsOf (Value.int .i64 0) m (vals (rrow (sv x3.2.2.2) (ss 3 x3.2.2.2))))) (fun x4=>false=false/\false=false/\callQr Try.prog 37 #[sv x4.1,sv r.1] [(sk 77 x4.1),(sk 77 r.1)] Unit (fun _=> .bool true) (fun _=>True) (fun _=>false=false/\(false=false)/\(PureRun Try.prog (vS (Builtin.len_ #[41] 3 #[sv r.1])) (.int .i64 ((vlen (sv r.1):Nat):Int)))/\(∃zx:Nat×Row,(zx.1<=l.length/\vals zx.2=l.map (fun p=>iv p.1))/\pp b 0=pp b 0/\sv r.1=sv r.1/\Value.int .i64 most= .int .i64 most/\sv x1=sv zx.2/\sv r.1=sv r.1/\Value.int .i64 ((vlen (sv r.1):Nat):Int)= .int .i64 ((vlen (sv r.1):Nat):Int)/\Value.int .i64 0= .int .i64 ((zx.1:Nat):Int)/\(mS Try.mk75 b bj m)=(mS Try.mk75 b bj m)/\(sk 77 r.1)=(sk 77 r.1)/\(ss 3 x1)=(ss 3 zx.2)/\True)/\ ∀x5:Nat×Row,∀jx5:Nat->Value,(x5.1<=l.length/\vals x5.2=l.map (fun p=>iv p.1))->((decide (((x5.1:Nat):Int)<((vlen (sv r.1):Nat):Int)))=true->(PureRun Try.prog (vS (Instr.indexAt 41 (sv r.1) (.int .i64 ((x5.1:Nat):Int)))) (.pointer (some ⟨(vblk (sv r.1)),(Int.toNat ((x5.1:Nat):Int)*2),none⟩)))/\opQr Try.prog (vS (Instr.loadAt 77 (.pointer (some ⟨(vblk (sv r.1)),(Int.toNat ((x5.1:Nat):Int)*2),none⟩)))) [(sk 77 r.1)] (Int×Int) (fun zx=> .agg #[.int .i64 zx.1, .int .i64 zx.2]) (fun zx=>rdK 2 (scells (sk 77 r.1)) (Int.toNat ((x5.1:Nat):Int)*2)=p2V zx) (fun x6=> ∀b7:Nat,rdQ 2 b7 (rdQ 1 b7 (callQr Try.prog 22 #[pp b 0, .int .i64 x6.1] [(mS Try.mk75 b bj m)] (Int×Bool) (fun zx=> .tuple #[.int .i64 zx.1, .bool zx.2]) (fun zx=>zx.1=ci ((mget m (Value.int .i64 x6.1)).getD (.int .i64 0))/\zx.2=(mget m (Value.int .i64 x6.1)).isSome) (fun x8=>(PureRun Try.prog (vS (Instr.indexAt 82 (sv x5.2) (.int .i64 ((x5.1:Nat):Int)))) (.pointer (some ⟨(vblk (sv x5.2)),(Int.toNat ((x5.1:Nat):Int)),none⟩)))/\opQr Try.prog (vS (Instr.loadAt 3 (.pointer (some ⟨(vblk (sv x5.2)),(Int.toNat ((x5.1:Nat):Int)),none⟩)))) [(ss 3 x5.2)] Int (fun zx=> .int .i64 zx) (fun zx=>(scells (ss 3 x5.2))[(Int.toNat ((x5.1:Nat):Int))]? =some (.int .i64 zx)) (fun x9=>rdQ 1 b7 ((∃_:Unit,True/\Value.bool (x9 !=x6.1)= .bool false)/\ ∀_:Unit,(True)->false=false/\false=false/\false=false/\rdQ 1 b7 (false=false/\(∃_:Unit,True/\Value.bool (x8.1 !=x6.2)= .bool false)/\ ∀_:Unit,(True)->false=false/\false=false/\(∃_:Unit,True/\Value.bool (!x8.2)= .bool false)/\ ∀_:Unit,(True)->(false=false)/\(∃_:Unit,True/\Value.int .i64 (IntKind.i64.wrap (((x5.1:Nat):Int)+1))= .int .i64 (((x5.1:Nat):Int)+1))/\ ∀_:Unit,(True)-> ∃zy:Nat×Row,(zy.1<=l.length/\vals zy.2=l.map (fun p=>iv p.1))/\l.length - zy.1<l.length - x5.1/\pp b 0=pp b 0/\sv r.1=sv r.1/\Value.int .i64 most= .int .i64 most/\sv x5.2=sv zy.2/\sv r.1=sv r.1/\Value.int .i64 ((vlen (sv r.1):Nat):Int)= .int .i64 ((vlen (sv r.1):Nat):Int)/\Value.int .i64 (((x5.1:Nat):Int)+1)= .int .i64 ((zy.1:Nat):Int)/\(mS Try.mk75 b bj m)=(mS Try.mk75 b bj m)/\(sk 77 r.1)=(sk 77 r.1)/\(ss 3 x5.2)=(ss 3 zy.2)/\True))))))))/\((decide (((x5.1:Nat):Int)<((vlen (sv r.1):Nat):Int)))=false->callQ Try.prog 39 #[pp b 0] [(mS Try.mk75 b bj m)] (Nat×Nat×Nat×Row) (fun zx=> .func (.func 54) #[] #[pp zx.1 0,pp zx.2.1 0]) (fun zx=> [(mS Try.mk75 b bj m),bk zx.1 #[sv zx.2.2.2] 82,(ss 3 zx.2.2.2),bk zx.2.1 #[.map (some zx.2.2.1)] 73,(mo zx.2.2.1 m)]) (fun zx=>KeysOf .i64 m (vals zx.2.2.2)) (fun x10=>callQ Try.prog 38 #[.func (.func 54) #[] #[pp x10.1 0,pp x10.2.1 0], .int .i64 most] [bk x10.1 #[sv x10.2.2.2] 82,(ss 3 x10.2.2.2),bk x10.2.1 #[.map (some x10.2.2.1)] 73,(mo x10.2.2.1 m)] (RK 2) (fun zx=>sv zx.1) (fun zx=> [bk x10.1 #[sv x10.2.2.2] 82,(ss 3 x10.2.2.2),bk x10.2.1 #[.map (some x10.2.2.1)] 73,(mo x10.2.2.1 m),(sk 77 zx.1)]) (fun zx=>vals zx.1=List.take (Int.toNat most) (pairsOf (Value.int .i64 0) m (vals (rrow (sv x10.2.2.2) (ss 3 x10.2.2.2))))) (fun x11=>(PureRun Try.prog (vS (Builtin.len_ #[41] 3 #[sv r.1])) (.int .i64 ((vlen (sv r.1):Nat):Int)))/\(PureRun Try.prog (vS (Instr.sliceAt 41 (sv r.1) none (some (.int .i64 (if (if ((vlen (sv r.1):Nat):Int)<most then ((vlen (sv r.1):Nat):Int) else most)>(0:Int) then (if ((vlen (sv r.1):Nat):Int)<most then ((vlen (sv r.1):Nat):Int) else most) else (0:Int)))) none)) ((vtake (sv r.1) (Int.toNat (if (if ((vlen (sv r.1):Nat):Int)<most then ((vlen (sv r.1):Nat):Int) else most)>(0:Int) then (if ((vlen (sv r.1):Nat):Int)<most then ((vlen (sv r.1):Nat):Int) else most) else (0:Int))))))/\callQr Try.prog 37 #[sv x11.1,(vtake (sv r.1) (Int.toNat (if (if ((vlen (sv r.1):Nat):Int)<most then ((vlen (sv r.1):Nat):Int) else most)>(0:Int) then (if ((vlen (sv r.1):Nat):Int)<most then ((vlen (sv r.1):Nat):Int) else most) else (0:Int))))] [(sk 77 x11.1),(sk 77 r.1)] Unit (fun _=> .bool true) (fun _=>True) (fun _=>law12_is_raw_Q b bj m r l most (Value.bool true) (mS Try.mk75 b bj m) (sk 77 r.1))))))))))):=by kernel_rfl
set_option maxRecDepth 100000 in
theorem law12_is_raw (b bj:Nat) (m:KV) (r:RK 2) (l:PL) (most:Int) (hd:DocP Try.mk75 l m) (wm:(Lit.int .i64 most).wf=true) (hv:vals r.1=pvs l) (hn:l.length<=200):CallT Try.prog 21 #[pp b 0,sv r.1, .int .i64 most] [(mS Try.mk75 b bj m),(sk 77 r.1)] Unit (fun _=> .bool true) (fun _=> [(mS Try.mk75 b bj m),(sk 77 r.1)]) (fun _=>True):=by
  refine call_of (c:=bodyOf Try.f21) (n:=81) (fn:=Try.f21) Try.mixed Try.func21 (by kernel_rfl) (by kernel_rfl) (by kernel_rfl) 2000 _ [] [0,1] rfl rfl (Eq.mpr (law12_is_raw_vc b bj m r l most) ?_)
  have hvl:=vlen_sv r.1;rw [hv,pvs_len] at hvl;have hrl:(vals r.1).length=l.length:=by rw [hv,pvs_len]
  have hmb:=wf_i64b wm
  refine callQ_mk (keys_Keys75 b bj m (SO1.int Try.intK75 hd.ok) (by rw [hd.len Try.intK75];omega)) (keysOf_wit (SO1.int Try.intK75 hd.ok).1 (SO1.int Try.intK75 hd.ok).2) fun x1 h1=> ?_
  have hY:=h1
  have P0:=hd.pairs Try.intK75 hY
  have hky:=vlen_sv x1;rw [P0.2,List.length_map] at hky
  refine callQr_mk (stage_Len75 b bj m) (⟨_,rfl⟩) fun x2 h2=> ?_
  have hml:=h2
  rw [hd.len Try.intK75] at hml
  refine ⟨xlenK Try.sk41 3 r.1,⟨(),trivial,congrArg Value.bool (by rw [hml,hvl];exact bne_self_eq_false _)⟩,fun _=>fun _=>⟨rfl,rfl,xlen Try.sl82 3 x1,rfl,rfl,xlenK Try.sk41 3 r.1,rfl,⟨(),trivial,congrArg Value.bool (by rw [hky,hvl];exact bne_self_eq_false _)⟩,fun _=>fun _=>⟨rfl,rfl,callQ_mk (keys_All75 b bj m (SO1.int Try.intK75 hd.ok) (by rw [hd.len Try.intK75];omega)) (keysOf_wit4 (SO1.int Try.intK75 hd.ok).1 (SO1.int Try.intK75 hd.ok).2) fun x3 h3=> ?_⟩⟩⟩
  have hX:=h3
  have P1:=hd.pairs Try.intK75 hX
  refine ⟨rfl,rfl,xlenK Try.sk41 3 r.1,rfl,⟨(),trivial,congrArg (Value.int .i64) (wrap_i64 _ (by omega) (by omega))⟩,fun _=>fun _=>⟨rfl,callQ_mk (law12_pairsX x3.1 x3.2.1 x3.2.2.1 x3.2.2.2 m (((vlen (sv r.1):Nat):Int)+1) (trivial) (hd.ok) (by rw [hd.len Try.intK75];omega) (hX)) (tk_wit _ _ _ _) fun x4 h4=> ?_⟩⟩
  simp only [rrow_vals] at h4
  have hA1:vals x4.1=pvs l:=by rw [h4,P1.1,List.take_of_length_le (by rw [pvs_len,hvl];omega)]
  refine ⟨rfl,rfl,callQr_mk (law12_same x4 r (same_ha hA1) (hA1.trans hv.symm) (by rw [hA1,pvs_len];omega)) (⟨(),trivial⟩) fun _ _=>⟨rfl,⟨rfl,⟨xlenK Try.sk41 3 r.1,⟨?_,fun x5 jx5 h5=> ?_⟩⟩⟩⟩⟩
  · exact ⟨(0,x1),⟨Nat.zero_le _,P0.2⟩,rfl,rfl,rfl,rfl,rfl,rfl,rfl,rfl,rfl,rfl,trivial⟩
  obtain ⟨hj,hK⟩:=h5
  have hvk:=vlen_sv x5.2;rw [hK,List.length_map] at hvk
  have hkl:(vals x5.2).length=l.length:=by rw [hK,List.length_map]
  refine ⟨fun h6=> ?_,fun h6=> ?_⟩
  · refine ⟨xidxK Try.sk41 r.1 .i64 ((x5.1:Nat):Int) (by (try simp only [decide_eq_true_eq,decide_eq_false_iff_not,gt_iff_lt,ge_iff_le,Int.not_lt,Int.not_le] at *);omega) (by (try simp only [decide_eq_true_eq,decide_eq_false_iff_not,gt_iff_lt,ge_iff_le,Int.not_lt,Int.not_le] at *);omega),opQr_mk (xgetKV Try.sk41 p2V r (Int.toNat ((x5.1:Nat):Int)) (pvs_at hv (by (try simp only [decide_eq_true_eq,decide_eq_false_iff_not,gt_iff_lt,ge_iff_le,Int.not_lt,Int.not_le] at *);omega))) (wgetKV (pvs_at hv (by (try simp only [decide_eq_true_eq,decide_eq_false_iff_not,gt_iff_lt,ge_iff_le,Int.not_lt,Int.not_le] at *);omega))) fun x6 h7=> ?_⟩
    replace h7:=egetKV (pvs_at hv (by (try simp only [decide_eq_true_eq,decide_eq_false_iff_not,gt_iff_lt,ge_iff_le,Int.not_lt,Int.not_le] at *);omega)) h7
    have hq:=pvs_get hv h7
    try rw [Int.toNat_natCast] at hq
    have hmg:mget m (iv x6.1)=some (iv x6.2):=(hd.at_ _ _).1 (List.mem_of_getElem? hq)
    intro b7
    refine rdQ_mk 2 _ (rdQ_mk 1 _ (callQr_mk (stage_Get75 b bj m x6.1) (⟨(_,_),rfl,rfl⟩) fun x8 h8=> ?_))
    have hg:=h8
    refine ⟨xidx Try.sl82 x5.2 .i64 ((x5.1:Nat):Int) (by (try simp only [decide_eq_true_eq,decide_eq_false_iff_not,gt_iff_lt,ge_iff_le,Int.not_lt,Int.not_le] at *);omega) (by (try simp only [decide_eq_true_eq,decide_eq_false_iff_not,gt_iff_lt,ge_iff_le,Int.not_lt,Int.not_le] at *);omega),opQr_mk (xgetV 3 (fun w=>by kernel_rfl) (Value.int .i64) x5.2 (Int.toNat ((x5.1:Nat):Int)) (kf_at hK (by (try simp only [decide_eq_true_eq,decide_eq_false_iff_not,gt_iff_lt,ge_iff_le,Int.not_lt,Int.not_le] at *);omega))) (wgetV (kf_at hK (by (try simp only [decide_eq_true_eq,decide_eq_false_iff_not,gt_iff_lt,ge_iff_le,Int.not_lt,Int.not_le] at *);omega))) fun x9 h9=> ?_⟩
    replace h9:=egetV (kf_at hK (by (try simp only [decide_eq_true_eq,decide_eq_false_iff_not,gt_iff_lt,ge_iff_le,Int.not_lt,Int.not_le] at *);omega)) h9
    have hk1:=h9
    try rw [Int.toNat_natCast] at hk1
    refine rdQ_mk 1 _ ⟨⟨(),trivial,congrArg Value.bool (by rw [keyf hK hq hk1];exact bne_self_eq_false _)⟩,fun _=>fun _=>⟨rfl,rfl,rfl,rdQ_mk 1 _ ⟨rfl,⟨(),trivial,congrArg Value.bool (by rw [hg.1,hmg];exact bne_self_eq_false _)⟩,fun _=>fun _=>⟨rfl,rfl,⟨(),trivial,congrArg Value.bool (by rw [hg.2,hmg];rfl)⟩,fun _=>fun _=>⟨rfl,⟨⟨(),trivial,congrArg (Value.int .i64) (wrap_i64 _ (by omega) (by omega))⟩,fun _=>fun _=> ?_⟩⟩⟩⟩⟩⟩
    have hlt:x5.1<l.length:=(List.getElem?_eq_some_iff.1 hq).1
    exact ⟨(x5.1+1,x5.2),⟨hlt,hK⟩,by (try dsimp only);omega,rfl,rfl,rfl,rfl,rfl,rfl,congrArg (Value.int .i64) (by (try dsimp only);omega),rfl,rfl,rfl,trivial⟩
  refine callQ_mk (keys_All75 b bj m (SO1.int Try.intK75 hd.ok) (by rw [hd.len Try.intK75];omega)) (keysOf_wit4 (SO1.int Try.intK75 hd.ok).1 (SO1.int Try.intK75 hd.ok).2) fun x10 h10=> ?_
  have hX2:=h10
  have P2:=hd.pairs Try.intK75 hX2
  refine callQ_mk (law12_pairsX x10.1 x10.2.1 x10.2.2.1 x10.2.2.2 m most (trivial) (hd.ok) (by rw [hd.len Try.intK75];omega) (hX2)) (tk_wit _ _ _ _) fun x11 h11=> ?_
  simp only [rrow_vals] at h11
  have hP2:=h11
  exact ⟨xlenK Try.sk41 3 r.1,xtakeKr Try.sk41 (by kernel_rfl) r .i64 (if (if ((vlen (sv r.1):Nat):Int)<most then ((vlen (sv r.1):Nat):Int) else most)>(0:Int) then (if ((vlen (sv r.1):Nat):Int)<most then ((vlen (sv r.1):Nat):Int) else most) else (0:Int)) (by split<;>split<;>omega) (by rw [hrl];split<;>split<;>omega),callQr_mk (law12_sameT x11 r l _ (by rw [hP2,P2.1,cut_min hv];exact pvs_min) hv (by rw [cut_min hv];omega) (by omega)) (⟨(),trivial⟩) fun _ _=>⟨(),trivial,rfl,rfl,rfl,trivial⟩⟩
noncomputable def law12_is_C:List Value->List Slot->Ctr:=fun vs hs=>⟨Unit,fun _=> .bool true,fun _=>hs,fun _=>True⟩
theorem law12_is (b bj:Nat) (m bm:KV) (v:Value) (most:Int) (hd:DocP Try.mk75 (blp bm v) m) (wm:(Lit.int .i64 most).wf=true) (hb:InBag bm v (pvs (blp bm v))) (hn:(blp bm v).length<=200):CallT Try.prog 21 #[.pointer (some ⟨b,0,none⟩),v, .int .i64 most] [(mS Try.mk75 b bj m),(bagK 2 77 bm)] Unit (fun _=> .bool true) (fun _=> [(mS Try.mk75 b bj m),(bagK 2 77 bm)]) (fun _=>True):=by
  refine (bagK_read (us:=fun _=> [(mS Try.mk75 b bj m)]) (enterOK (c:=bodyOf Try.f21) Try.func21 (by kernel_rfl) (by kernel_rfl)) hb fun r hs hv=> ?_).conv (Imp.swap [_] [_]) fun _ _=>Imp.swap [_] [_]
  subst hs
  exact (law12_is_raw b bj m r _ most hd wm hv hn).conv (Imp.swap [_] [_]) fun _ _=>Imp.swap [_] [_]
theorem undo_shape2 {K0 K1:MK} {b0 b1:Nat} {m0 m1:KV} {l:List MS3} (h:l.map (fun x=>(x.1,x.2.1))=([(K0,b0,m0),(K1,b1,m1)]:List MS3).map (fun x=>(x.1,x.2.1))): ∃y0 y1,l= [(K0,b0,y0),(K1,b1,y1)]:=by
  match l,h with
  | [x0, x1], h =>
    simp only [List.map_cons,List.map_nil,List.cons.injEq,Prod.mk.injEq,and_true] at h
    obtain ⟨⟨p0,q0⟩,⟨p1,q1⟩⟩:=h
    exact ⟨x0.2.2,x1.2.2,by simp only [List.cons.injEq,and_true];exact ⟨Prod.ext p0 (Prod.ext q0 rfl),Prod.ext p1 (Prod.ext q1 rfl)⟩⟩
noncomputable def stage_Back_75_75_C:List Value->List Slot->Ctr:=fun vs hs=>⟨KV×KV,fun zx=> .bool true,fun zx=> [(jS Try.jk (vblk (varg vs 1)) (List.take (Int.toNat (ci (varg vs 2))) (sents (sarg hs 0)))),(mS Try.mk75 (snum (sarg hs 1) 0) (vblk (varg vs 1)) zx.1),(mS Try.mk75 (snum (sarg hs 2) 0) (vblk (varg vs 1)) zx.2)],fun zx=>undoAll (List.drop (Int.toNat (ci (varg vs 2))) (sents (sarg hs 0))) [(Try.mk75,(snum (sarg hs 1) 0),(skv (sarg hs 1))),(Try.mk75,(snum (sarg hs 2) 0),(skv (sarg hs 2)))]= [(Try.mk75,(snum (sarg hs 1) 0),zx.1),(Try.mk75,(snum (sarg hs 2) 0),zx.2)]⟩
theorem stage_Back_75_75 (bj:Nat) (L:List Ent) (mark:Int) (b0:Nat) (m0:KV) (b1:Nat) (m1:KV) (h0:0<=mark) (h1:mark<=((List.length L:Nat):Int)) (hl:List.length L<=1000000) (hE: ∀e∈List.drop (Int.toNat mark) L,∃y∈([(Try.mk75,b0,m0),(Try.mk75,b1,m1)]:List MS3),y.2.1=e.b/\EOK Try.prog bj y.1 e):CallT Try.prog 18 #[.pointer (some ⟨bj,0,none⟩), .int .i64 mark] [(jS Try.jk bj L),(mS Try.mk75 b0 bj m0),(mS Try.mk75 b1 bj m1)] (KV×KV) (fun zx=> .bool true) (fun zx=> [(jS Try.jk bj (List.take (Int.toNat mark) L)),(mS Try.mk75 b0 bj zx.1),(mS Try.mk75 b1 bj zx.2)]) (fun zx=>(undoAll (List.drop (Int.toNat mark) L) [(Try.mk75,b0,m0),(Try.mk75,b1,m1)]= [(Try.mk75,b0,zx.1),(Try.mk75,b1,zx.2)])):=by
  have c:=back_of (K:=Try.jk) (bj:=bj) (L:=L) (mark:=mark) (Ms:= [(Try.mk75,b0,m0),(Try.mk75,b1,m1)]) (enterOK (c:=bodyOf Try.f18) Try.func18 (by kernel_rfl) (by kernel_rfl)) (A:=Try.rfA18) (B:=Try.rfB18) (ps:= #[25,26]) (n:=38) (fun row T h1 h2 h3=>stage_Back_raw bj row mark T h0 h1 h2 h3) (fun l D fn tmps i e a S1 S0 hz hc=>stage_round l D fn tmps i e a S1 S0 hz hc) h0 h1 hl hE
  have hk:=undoAll_ks (List.drop (Int.toNat mark) L) [(Try.mk75,b0,m0),(Try.mk75,b1,m1)]
  obtain ⟨y0,y1,hu⟩:=undo_shape2 hk
  rw [hu] at c
  exact c.exists fun _ hn=>⟨(y0,y1),hu,rfl,Imp.refl _⟩
abbrev stage_BackF_raw_Q (bj:Nat) (row:Rw) (mark:Int) (zv:Value) (zs0:Slot) (zs1:Slot):Prop:= ∃_:Unit,(True)/\zv= .bool false/\zs0=bk bj #[sv row] 30/\zs1=(ss 1 row)/\True
set_option maxRecDepth 100000 in
theorem stage_BackF_raw_vc (bj:Nat) (row:Rw) (mark:Int):codeW Try.prog 38 none 2000 none (bodyOf Try.f18) (.reg [S0] (.caseP (fun s=>decide ((ci (s.fr 1))<(0:Int))) (.reg [S0, .gen [] (Sx.one (.bool true)),S0, .no, .no, .no, .no, .no, .no, .no,S0] (.condT (.reg [S0] (.done)))) (.reg [S0, .gen [] (Sx.one (.bool false)),S0,S0,S0,S0,S0, .sem [.rd 0], .eq (f_len), .gen [] (Sx.one (.bool true)),S0] (.condT (.reg [S0] (.done))))))
    (init #[pp bj 0, .int .i64 mark] [bk bj #[sv row] 30,(ss 1 row)]) (finW Try.prog Try.f18 [] [0,1] (X:=Unit) (fun _=> .bool false) (fun _=> [bk bj #[sv row] 30,(ss 1 row)]) (fun _=>True))=
    (((decide (mark<(0:Int)))=true->(∃_:Unit,True/\Value.bool (decide (mark<(0:Int)))= .bool true)/\ ∀_:Unit,(True)->true= !false/\true= !false/\true= !false/\true= !false/\true= !false/\true= !false/\true= !false/\(true=true)/\stage_BackF_raw_Q bj row mark (Value.bool false) (bk bj #[sv row] 30) (ss 1 row))/\((decide (mark<(0:Int)))=false->(∃_:Unit,True/\Value.bool (decide (mark<(0:Int)))= .bool false)/\ ∀_:Unit,(True)->false=false/\false=false/\false=false/\false=false/\false=false/\rdQ 1 bj (false=false/\(PureRun Try.prog (vS (Builtin.len_ #[28] 3 #[sv row])) (.int .i64 ((vlen (sv row):Nat):Int)))/\false=false/\(∃_:Unit,True/\Value.bool (decide (mark>((vlen (sv row):Nat):Int)))= .bool true)/\ ∀_:Unit,(True)->(true=true)/\stage_BackF_raw_Q bj row mark (Value.bool false) (bk bj #[sv row] 30) (ss 1 row)))):=by kernel_rfl
set_option maxRecDepth 100000 in
theorem stage_BackF_raw (bj:Nat) (row:Rw) (mark:Int) (hf:mark<0∨(((vals row).length:Nat):Int)<mark):CallT Try.prog 18 #[pp bj 0, .int .i64 mark] [bk bj #[sv row] 30,(ss 1 row)] Unit (fun _=> .bool false) (fun _=> [bk bj #[sv row] 30,(ss 1 row)]) (fun _=>True):=by
  refine call_of (c:=bodyOf Try.f18) (n:=38) (fn:=Try.f18) Try.mixed Try.func18 (by kernel_rfl) (by kernel_rfl) (by kernel_rfl) 2000 _ [] [0,1] rfl rfl (Eq.mpr (stage_BackF_raw_vc bj row mark) ?_)
  have hv1:=vlen_sv row
  refine ⟨fun h1=> ?_,fun h1=> ?_⟩
  · exact ⟨⟨(),trivial,congrArg Value.bool h1⟩,fun _=>fun _=>⟨rfl,rfl,rfl,rfl,rfl,rfl,rfl,⟨rfl,⟨(),trivial,rfl,rfl,rfl,trivial⟩⟩⟩⟩
  exact ⟨⟨(),trivial,congrArg Value.bool h1⟩,fun _=>fun _=>⟨rfl,rfl,rfl,rfl,rfl,rdQ_mk 1 _ ⟨rfl,xlen Try.sl28 3 row,rfl,⟨(),trivial,congrArg Value.bool (decide_eq_true (by have q:=of_decide_eq_false h1;omega))⟩,fun _=>fun _=>⟨rfl,⟨(),trivial,rfl,rfl,rfl,trivial⟩⟩⟩⟩⟩
noncomputable def stage_BackF_C:List Value->List Slot->Ctr:=fun vs hs=>⟨Unit,fun _=> .bool false,fun _=>hs,fun _=>True⟩
theorem stage_BackF (bj:Nat) (L:List Ent) (mark:Int) (hf:mark<0∨((L.length:Nat):Int)<mark):CallT Try.prog 18 #[.pointer (some ⟨bj,0,none⟩), .int .i64 mark] [(jS Try.jk bj L)] Unit (fun _=> .bool false) (fun _=> [(jS Try.jk bj L)]) (fun _=>True):=by
  refine jS_read (enterOK (c:=bodyOf Try.f18) Try.func18 (by kernel_rfl) (by kernel_rfl)) fun row _ hl=> ?_
  exact stage_BackF_raw bj row mark (by rw [hl];exact hf)
theorem Try.eoks2 {b0 b1 bj i:Nat} {L:List Ent} {m0 m1 bm:KV} {v0 v1:Slc} {ws:List (Slc×Slc)} (h:SPl Try.mk75 Try.ent75 b0 b1 i m0 m1 L bm v0 v1 ws) (n:Nat): ∀e∈List.drop n L,∃y∈([(Try.mk75,b0,m0),(Try.mk75,b1,m1)]:List MS3),y.2.1=e.b/\EOK Try.prog bj y.1 e:=by
  intro e he
  obtain ⟨b,m',key,hb,rfl,⟨q,rfl⟩,hk⟩:=h.jl e (List.mem_of_mem_drop he)
  rcases hb with rfl | rfl
  · exact ⟨_,List.mem_cons_self ..,rfl,Try.eok75 hk⟩
  · exact ⟨_,List.mem_cons_of_mem _ (List.mem_cons_self ..),rfl,Try.eok75 hk⟩
theorem Try.list4 {α:Type} {l:List α} (h:l.length=4): ∃a0 a1 a2 a3,l= [a0,a1,a2,a3]:=by
  match l,h with
  | [a0,a1,a2,a3],_=>exact ⟨a0,a1,a2,a3,rfl⟩
def Try.el45:Int×Int×Int×Int->Value:=fun x=> .agg #[.int .u8 x.1, .int .i64 x.2.1, .int .i64 x.2.2.1, .int .i64 x.2.2.2]
def Try.el45_ok:Int×Int×Int×Int->Prop:=fun x=>(Lit.int .u8 x.1).wf=true/\(Lit.int .i64 x.2.1).wf=true/\(Lit.int .i64 x.2.2.1).wf=true/\(Lit.int .i64 x.2.2.2).wf=true
theorem Try.elt36:ElT Try.prog 36 45 4:=⟨by kernel_rfl,fun w=>by kernel_rfl⟩
theorem Try.elk45:ElK Try.prog 45 4 (X:=Int×Int×Int×Int) Try.el45 Try.el45_ok:=by
  refine ⟨.inl ⟨fun w=>by kernel_rfl,fun x=>⟨_,rfl⟩⟩,fun w=>by kernel_rfl,fun _=>rfl,fun x y hx hy h=> ?_⟩
  have e:=fun (i:Nat)=>congrArg (fun l:List Value=>l.getD i undef) h
  have e0:x.1=y.1:=congrArg ci (e 0)
  have e1:x.2.1=y.2.1:=congrArg ci (e 1)
  have e2:x.2.2.1=y.2.2.1:=congrArg ci (e 2)
  have e3:x.2.2.2=y.2.2.2:=congrArg ci (e 3)
  exact (Prod.ext e0 (Prod.ext e1 (Prod.ext e2 e3)))
theorem Try.opens45:Opens Try.prog 45 4 (X:=Int×Int×Int×Int) Try.el45 Try.el45_ok:=by
  intro H enc W base sp held fuel cs y hl h
  obtain ⟨c0,c1,c2,c3,rfl⟩:=Try.list4 hl
  obtain ⟨xs,n,hn,hx,hsz,hlen,hf⟩:=DataW.trod_struct (fs:=Try.prog.fieldsOf 45) (by kernel_rfl) h
  have t0: ∃y,DataW.trod enc Try.prog W base sp held n 5 [c0]=some y:=trod_field hlen hf 0 (f:=(Try.prog.fieldsOf 45).getD 0 default) (off:=0) (k:=1) (by kernel_rfl) (by kernel_rfl) (by kernel_rfl) (by kernel_rfl)
  obtain ⟨y0,t0⟩:=t0
  obtain ⟨v0,q0,k0⟩:=opens_int (P:=Try.prog) (t:=5) (k:= .u8) (by kernel_rfl) H enc W base sp held n _ _ rfl t0
  have t1: ∃y,DataW.trod enc Try.prog W base sp held n 3 [c1]=some y:=trod_field hlen hf 1 (f:=(Try.prog.fieldsOf 45).getD 1 default) (off:=1) (k:=1) (by kernel_rfl) (by kernel_rfl) (by kernel_rfl) (by kernel_rfl)
  obtain ⟨y1,t1⟩:=t1
  obtain ⟨v1,q1,k1⟩:=opens_int (P:=Try.prog) (t:=3) (k:= .i64) (by kernel_rfl) H enc W base sp held n _ _ rfl t1
  have t2: ∃y,DataW.trod enc Try.prog W base sp held n 3 [c2]=some y:=trod_field hlen hf 2 (f:=(Try.prog.fieldsOf 45).getD 2 default) (off:=2) (k:=1) (by kernel_rfl) (by kernel_rfl) (by kernel_rfl) (by kernel_rfl)
  obtain ⟨y2,t2⟩:=t2
  obtain ⟨v2,q2,k2⟩:=opens_int (P:=Try.prog) (t:=3) (k:= .i64) (by kernel_rfl) H enc W base sp held n _ _ rfl t2
  have t3: ∃y,DataW.trod enc Try.prog W base sp held n 3 [c3]=some y:=trod_field hlen hf 3 (f:=(Try.prog.fieldsOf 45).getD 3 default) (off:=3) (k:=1) (by kernel_rfl) (by kernel_rfl) (by kernel_rfl) (by kernel_rfl)
  obtain ⟨y3,t3⟩:=t3
  obtain ⟨v3,q3,k3⟩:=opens_int (P:=Try.prog) (t:=3) (k:= .i64) (by kernel_rfl) H enc W base sp held n _ _ rfl t3
  refine ⟨(v0,v1,v2,v3),?_,⟨k0,k1,k2,k3⟩⟩
  show [c0]++ [c1]++ [c2]++ [c3]=_
  rw [q0,q1,q2,q3]
  rfl
theorem Try.sk43:SkT Try.prog 43 42 2 (Value.agg #[.slice none 0 0, .slice none 0 0]):=SkT.of (by kernel_rfl) (by kernel_rfl) (by kernel_rfl) rfl (fun w=>by kernel_rfl)
noncomputable def stage_NewB_C:List Value->List Slot->Ctr:=fun vs hs=>⟨Nat,fun zx=>pp zx 0,fun zx=> [(mS Try.mk75 zx (vblk (varg vs 1)) ([])),(bagK 2 77 ([]))],fun zx=>True⟩
theorem stage_NewB (bj:Nat) :CallT Try.prog 12 #[.pointer (some ⟨bj,0,none⟩), .func (.func 13) #[] #[]] [] Nat (fun zx=> .pointer (some ⟨zx,0,none⟩)) (fun zx=> [(mS Try.mk75 zx bj ([])),(bagK 2 77 ([]))]) (fun zx=>(True)):=(stage_New75 bj).exists fun x _=>⟨x,trivial,rfl,(bagK_nil (l:= [_])).trans (Imp.swap [_] [_])⟩
abbrev law12_StagePlays_Q (w:World) (l:Value) (pk most:Int) (ls:List (Int×Int×Int×Int)) (zv:Value) (zs0:Slot):Prop:= ∃_:Unit,(True)/\zv= .bool true/\zs0=(old w)/\True
end Go.Proofs
