/- Contracts of this program's functions, and their proofs, printed by a program of the prover's own (see the claim's other texts for what the words mean). -/
import Derived.Test.YtndpgncojcpnjaaGreatF1
import Derived.Test.YtndpgncojcpnjaaGreatF2
import Derived.Test.YtndpgncojcpnjaaGreatF3
import Derived.Test.YtndpgncojcpnjaaGreatF4
import Derived.Test.YtndpgncojcpnjaaGreatProg
set_option linter.unusedVariables false
set_option linter.unusedSimpArgs false
namespace Go.Proofs
open Go.Sx
theorem Tryz.mixed:Tryz.prog.follows .mixedOrders=true:=by kernel_rfl
def limb_bit_C:List Value->List Slot->Ctr:=fun vs hs=>⟨Unit,fun _=>uu (bit (cb (varg vs 1))),fun _=>hs,fun _=>True⟩
abbrev limb_bit_Q (b:Bool) (zv:Value) :Prop:= ∃_:Unit,(True)/\zv=uu (bit b)/\True
abbrev limb_bit_A (b:Bool) (zF:SF Unit):Prop:=zF #[.bool b] [] (fun _=>uu (bit b)) (fun _=> []) (fun _=>True)
set_option maxRecDepth 100000 in
theorem limb_bit_vc (b:Bool):limb_bit_A b (fun za zh zv zu zp=>codeW Tryz.prog 4 none 2000 none (bodyOf Tryz.f87) (.reg [S0] (.reg [S0] (.cond (.reg [S0] (.done)) (.reg [S0] (.done)))))
    (init za zh) (finW Tryz.prog Tryz.f87 [] [] (X:=Unit) zv zu zp))=
    ((b=true->limb_bit_Q b (uu 1))/\(b=false->limb_bit_Q b (uu 0))):=by kernel_rfl
set_option maxRecDepth 100000 in
theorem limb_bit (b:Bool) :limb_bit_A b (fun za zh zv zu zp=>CallT Tryz.prog 87 za zh Unit zv zu zp):=by
  refine call_of (c:=bodyOf Tryz.f87) (n:=4) (fn:=Tryz.f87) Tryz.mixed Tryz.func87 (by kernel_rfl) (by kernel_rfl) (by kernel_rfl) 2000 _ [] [] rfl rfl (Eq.mpr (limb_bit_vc b) ?_)
  refine ⟨fun h1=> ?_,fun h1=> ?_⟩
  · refine ⟨(),trivial,?_,trivial⟩
    simp [bit, *]
  refine ⟨(),trivial,?_,trivial⟩
  simp [bit, *]
abbrev limb_bit_K (b:Bool) (KK:Unit->Prop):Prop:=limb_bit_A b (fun za zh zv zu zp=>callQr Tryz.prog 87 za zh Unit zv zp KK)
theorem limb_bit_m (b:Bool) {KK:Unit->Prop} (kont:KK ()) :limb_bit_K b KK:=callQr_mk (limb_bit b) (⟨(),trivial⟩) fun _ _=>kont
def limb_Add_C:List Value->List Slot->Ctr:=fun vs hs=>⟨Int×Int,fun zx=> .tuple #[uu zx.1,uu zx.2],fun _=>hs,fun zx=>AddR (ci (varg vs 1)) (ci (varg vs 2)) (ci (varg vs 3)) zx.1 zx.2⟩
abbrev limb_Add_Q (a b c:Int) (zv:Value) :Prop:= ∃zx:Int×Int,(AddR a b c zx.1 zx.2)/\zv= .tuple #[uu zx.1,uu zx.2]/\True
abbrev limb_Add_A (a b c:Int) (zF:SF (Int×Int)):Prop:=zF #[uu a,uu b,uu c] [] (fun zx=> .tuple #[uu zx.1,uu zx.2]) (fun zx=> []) (fun zx=>(AddR a b c zx.1 zx.2))
set_option maxRecDepth 100000 in
theorem limb_Add_vc (a b c:Int):limb_Add_A a b c (fun za zh zv zu zp=>codeW Tryz.prog 26 none 2000 none (bodyOf Tryz.f79) (.reg [S0,S0] (.reg [S0,S0,S0,S0] (.reg [S0,S0,S0, .callr [] limb_bit_C,S0] (.reg [S0,S0] (.cond (.reg [S0,S0,S0] (.reg [S0,S0,S0, .callr [] limb_bit_C,S0,S0] (.reg [S0,S0,S0,S0] (.done)))) (.reg [S0,S0,S0,S0] (.done)))))))
    (init za zh) (finW Tryz.prog Tryz.f79 [] [] (X:=Int×Int) zv zu zp))=
    (limb_bit_K (decide ((IntKind.u64.wrap (a+b))<a)) (fun _=>((c !=(0:Int))=true->limb_bit_K ((IntKind.u64.wrap ((IntKind.u64.wrap (a+b))+1))==(0:Int)) (fun _=>limb_Add_Q a b c (Value.tuple #[uu (IntKind.u64.wrap ((IntKind.u64.wrap (a+b))+1)),uu (IntKind.u64.wrap ((BitVec.ofInt 64 (bit (decide ((IntKind.u64.wrap (a+b))<a))) ||| BitVec.ofInt 64 (bit ((IntKind.u64.wrap ((IntKind.u64.wrap (a+b))+1))==(0:Int))):BitVec 64).toNat:Int))])))/\((c !=(0:Int))=false->limb_Add_Q a b c (Value.tuple #[uu (IntKind.u64.wrap (a+b)),uu (bit (decide ((IntKind.u64.wrap (a+b))<a)))])))):=by kernel_rfl
set_option maxRecDepth 100000 in
theorem limb_Add (a b c:Int) (ha:W a) (hb:W b):limb_Add_A a b c (fun za zh zv zu zp=>CallT Tryz.prog 79 za zh (Int×Int) zv zu zp):=by
  refine call_of (c:=bodyOf Tryz.f79) (n:=26) (fn:=Tryz.f79) Tryz.mixed Tryz.func79 (by kernel_rfl) (by kernel_rfl) (by kernel_rfl) 2000 _ [] [] rfl rfl (Eq.mpr (limb_Add_vc a b c) ?_)
  refine limb_bit_m (decide ((IntKind.u64.wrap (a+b))<a)) ⟨fun h1=> ?_,fun h1=> ?_⟩
  · exact limb_bit_m ((IntKind.u64.wrap ((IntKind.u64.wrap (a+b))+1))==(0:Int)) ⟨((IntKind.u64.wrap ((IntKind.u64.wrap (a+b))+1)),(IntKind.u64.wrap ((BitVec.ofInt 64 (bit (decide ((IntKind.u64.wrap (a+b))<a))) ||| BitVec.ofInt 64 (bit ((IntKind.u64.wrap ((IntKind.u64.wrap (a+b))+1))==(0:Int))):BitVec 64).toNat:Int))),add_fin ha hb (by first | exact .inl ⟨‹_›,rfl,rfl⟩ | exact .inr ⟨‹_›,rfl,rfl⟩),rfl,trivial⟩
  exact ⟨((IntKind.u64.wrap (a+b)),(bit (decide ((IntKind.u64.wrap (a+b))<a)))),add_fin ha hb (by first | exact .inl ⟨‹_›,rfl,rfl⟩ | exact .inr ⟨‹_›,rfl,rfl⟩),rfl,trivial⟩
abbrev limb_Add_K (a b c:Int) (KK:(Int×Int)->Prop):Prop:=limb_Add_A a b c (fun za zh zv zu zp=>callQr Tryz.prog 79 za zh (Int×Int) zv zp KK)
theorem limb_Add_m (a b c:Int) {KK:(Int×Int)->Prop} (kont: ∀zx:Int×Int,(AddR a b c zx.1 zx.2)->KK zx) (ha:W a:=by first | assumption | exact W_lim _ _ | (unfold W;decide)) (hb:W b:=by first | assumption | exact W_lim _ _ | (unfold W;decide)):limb_Add_K a b c KK:=callQr_mk (limb_Add a b c ha hb) (wit_add (ha) (hb)) fun zx hz=>by
  exact kont zx hz
def limb_Sub_C:List Value->List Slot->Ctr:=fun vs hs=>⟨Int×Int,fun zx=> .tuple #[uu zx.1,uu zx.2],fun _=>hs,fun zx=>SubR (ci (varg vs 1)) (ci (varg vs 2)) (ci (varg vs 3)) zx.1 zx.2⟩
abbrev limb_Sub_Q (a b c:Int) (zv:Value) :Prop:= ∃zx:Int×Int,(SubR a b c zx.1 zx.2)/\zv= .tuple #[uu zx.1,uu zx.2]/\True
abbrev limb_Sub_A (a b c:Int) (zF:SF (Int×Int)):Prop:=zF #[uu a,uu b,uu c] [] (fun zx=> .tuple #[uu zx.1,uu zx.2]) (fun zx=> []) (fun zx=>(SubR a b c zx.1 zx.2))
set_option maxRecDepth 100000 in
theorem limb_Sub_vc (a b c:Int):limb_Sub_A a b c (fun za zh zv zu zp=>codeW Tryz.prog 26 none 2000 none (bodyOf Tryz.f83) (.reg [S0,S0] (.reg [S0,S0,S0,S0] (.reg [S0,S0,S0, .callr [] limb_bit_C,S0] (.reg [S0,S0] (.cond (.reg [S0,S0,S0, .callr [] limb_bit_C,S0,S0] (.reg [S0,S0,S0] (.reg [S0,S0,S0,S0] (.done)))) (.reg [S0,S0,S0,S0] (.done)))))))
    (init za zh) (finW Tryz.prog Tryz.f83 [] [] (X:=Int×Int) zv zu zp))=
    (limb_bit_K (decide (a<b)) (fun _=>((c !=(0:Int))=true->limb_bit_K ((IntKind.u64.wrap (a - b))==(0:Int)) (fun _=>limb_Sub_Q a b c (Value.tuple #[uu (IntKind.u64.wrap ((IntKind.u64.wrap (a - b)) - 1)),uu (IntKind.u64.wrap ((BitVec.ofInt 64 (bit (decide (a<b))) ||| BitVec.ofInt 64 (bit ((IntKind.u64.wrap (a - b))==(0:Int))):BitVec 64).toNat:Int))])))/\((c !=(0:Int))=false->limb_Sub_Q a b c (Value.tuple #[uu (IntKind.u64.wrap (a - b)),uu (bit (decide (a<b)))])))):=by kernel_rfl
set_option maxRecDepth 100000 in
theorem limb_Sub (a b c:Int) (ha:W a) (hb:W b):limb_Sub_A a b c (fun za zh zv zu zp=>CallT Tryz.prog 83 za zh (Int×Int) zv zu zp):=by
  refine call_of (c:=bodyOf Tryz.f83) (n:=26) (fn:=Tryz.f83) Tryz.mixed Tryz.func83 (by kernel_rfl) (by kernel_rfl) (by kernel_rfl) 2000 _ [] [] rfl rfl (Eq.mpr (limb_Sub_vc a b c) ?_)
  refine limb_bit_m (decide (a<b)) ⟨fun h1=> ?_,fun h1=> ?_⟩
  · exact limb_bit_m ((IntKind.u64.wrap (a - b))==(0:Int)) ⟨((IntKind.u64.wrap ((IntKind.u64.wrap (a - b)) - 1)),(IntKind.u64.wrap ((BitVec.ofInt 64 (bit (decide (a<b))) ||| BitVec.ofInt 64 (bit ((IntKind.u64.wrap (a - b))==(0:Int))):BitVec 64).toNat:Int))),sub_fin ha hb (by first | exact .inl ⟨‹_›,rfl,rfl⟩ | exact .inr ⟨‹_›,rfl,rfl⟩),rfl,trivial⟩
  exact ⟨((IntKind.u64.wrap (a - b)),(bit (decide (a<b)))),sub_fin ha hb (by first | exact .inl ⟨‹_›,rfl,rfl⟩ | exact .inr ⟨‹_›,rfl,rfl⟩),rfl,trivial⟩
abbrev limb_Sub_K (a b c:Int) (KK:(Int×Int)->Prop):Prop:=limb_Sub_A a b c (fun za zh zv zu zp=>callQr Tryz.prog 83 za zh (Int×Int) zv zp KK)
theorem limb_Sub_m (a b c:Int) {KK:(Int×Int)->Prop} (kont: ∀zx:Int×Int,(SubR a b c zx.1 zx.2)->KK zx) (ha:W a:=by first | assumption | exact W_lim _ _ | (unfold W;decide)) (hb:W b:=by first | assumption | exact W_lim _ _ | (unfold W;decide)):limb_Sub_K a b c KK:=callQr_mk (limb_Sub a b c ha hb) (wit_sub (ha) (hb)) fun zx hz=>by
  exact kont zx hz
def huge_chainAdd_C:List Value->List Slot->Ctr:=fun vs hs=>⟨Int×Int,fun zx=> .tuple #[vI zx.1, .int .i64 zx.2],fun _=>hs,fun zx=>R4 zx.1/\zx=hAdd (num (varg vs 1)) (num (varg vs 2))⟩
abbrev huge_chainAdd_Q (a b:Int) (zv:Value) :Prop:= ∃zx:Int×Int,(R4 zx.1/\zx=hAdd (num (vI a)) (num (vI b)))/\zv= .tuple #[vI zx.1, .int .i64 zx.2]/\True
abbrev huge_chainAdd_A (a b:Int) (zF:SF (Int×Int)):Prop:=zF #[vI a,vI b, .func (.func 79) #[] #[]] [] (fun zx=> .tuple #[vI zx.1, .int .i64 zx.2]) (fun zx=> []) (fun zx=>(R4 zx.1/\zx=hAdd (num (vI a)) (num (vI b))))
set_option maxRecDepth 100000 in
theorem huge_chainAdd_vc (a b:Int):huge_chainAdd_A a b (fun za zh zv zu zp=>codeW Tryz.prog 33 none 2000 none (bodyOf Tryz.f78) (.reg [.sem [.nw 0], .sem [.nw 1], .sem [.nw 2],S0] (.reg [.sem [.nw 3]] (.reg [S0] (.reg [S0] (.reg [S0] (.condT (.reg [S0,S0] (.reg [S0,S0,S0,S0, .sem [.rd 0],S0,S0, .sem [.rd 1],S0, .callr [] limb_Add_C,S0,S0,S0,S0, .sem [.wr 3],S0] (.reg [S0,S0] (.reg [S0] (.condT (.reg [S0,S0] (.reg [S0,S0,S0,S0, .sem [.rd 0],S0,S0, .sem [.rd 1],S0, .callr [] limb_Add_C,S0,S0,S0,S0, .sem [.wr 3],S0] (.reg [S0,S0] (.reg [S0] (.condT (.reg [S0,S0] (.reg [S0,S0,S0,S0, .sem [.rd 0],S0,S0, .sem [.rd 1],S0, .callr [] limb_Add_C,S0,S0,S0,S0, .sem [.wr 3],S0] (.reg [S0,S0] (.reg [S0] (.condT (.reg [S0,S0] (.reg [S0,S0,S0,S0, .sem [.rd 0],S0,S0, .sem [.rd 1],S0, .callr [] limb_Add_C,S0,S0,S0,S0, .sem [.wr 3],S0] (.reg [S0,S0] (.reg [S0] (.condF (.reg [S0,S0] (.cond (.reg [S0, .sem (wrs 4 2),S0] (.done)) (.reg [.sem (rds 4 3), .sem (wrs 4 2),S0] (.done))))))))))))))))))))))))))))))
    (init za zh) (finW Tryz.prog Tryz.f78 [.rd 2, .rd 2, .rd 2, .rd 2] [] (X:=Int×Int) zv zu zp))=
    (∀b1:Nat,∀b2:Nat,∀b3:Nat,∀b4:Nat,(true=true)/\rdQ 1 b1 (rdQ 1 b2 (limb_Add_K (lim a 0) (lim b 0) (0:Int) (fun x5=>rdQ 1 b4 ((true=true)/\rdQ 1 b1 (rdQ 1 b2 (limb_Add_K (lim a 1) (lim b 1) x5.2 (fun x6=>rdQ 1 b4 ((true=true)/\rdQ 1 b1 (rdQ 1 b2 (limb_Add_K (lim a 2) (lim b 2) x6.2 (fun x7=>rdQ 1 b4 ((true=true)/\rdQ 1 b1 (rdQ 1 b2 (limb_Add_K (lim a 3) (lim b 3) x7.2 (fun x8=>rdQ 1 b4 ((false=false)/\((x8.2 !=(0:Int))=true->rdQ 4 b3 (rdQ 4 b3 (huge_chainAdd_Q a b (Value.tuple #[.agg #[uu 0,uu 0,uu 0,uu 0], .int .i64 2]))))/\((x8.2 !=(0:Int))=false->rdQ 4 b4 (rdQ 4 b3 (rdQ 4 b3 (huge_chainAdd_Q a b (Value.tuple #[.agg #[uu x5.1,uu x6.1,uu x7.1,uu x8.1], .int .i64 0])))))))))))))))))))))):=by kernel_rfl
set_option maxRecDepth 100000 in
theorem huge_chainAdd (a b:Int) (r_a:R4 a) (r_b:R4 b):huge_chainAdd_A a b (fun za zh zv zu zp=>CallT Tryz.prog 78 za zh (Int×Int) zv zu zp):=by
  refine call_of (c:=bodyOf Tryz.f78) (n:=33) (fn:=Tryz.f78) Tryz.mixed Tryz.func78 (by kernel_rfl) (by kernel_rfl) (by kernel_rfl) 2000 _ [.rd 2, .rd 2, .rd 2, .rd 2] [] rfl rfl (Eq.mpr (huge_chainAdd_vc a b) ?_)
  intro b1
  intro b2
  intro b3
  intro b4
  refine ⟨rfl,rdQ_mk 1 _ (rdQ_mk 1 _ (limb_Add_m (lim a 0) (lim b 0) (0:Int) (fun x5 h1=> ?_)))⟩
  have wh1:=h1.s
  refine rdQ_mk 1 _ ⟨rfl,rdQ_mk 1 _ (rdQ_mk 1 _ (limb_Add_m (lim a 1) (lim b 1) x5.2 (fun x6 h2=> ?_)))⟩
  have wh2:=h2.s
  refine rdQ_mk 1 _ ⟨rfl,rdQ_mk 1 _ (rdQ_mk 1 _ (limb_Add_m (lim a 2) (lim b 2) x6.2 (fun x7 h3=> ?_)))⟩
  have wh3:=h3.s
  refine rdQ_mk 1 _ ⟨rfl,rdQ_mk 1 _ (rdQ_mk 1 _ (limb_Add_m (lim a 3) (lim b 3) x7.2 (fun x8 h4=> ?_)))⟩
  have wh4:=h4.s
  refine rdQ_mk 1 _ ⟨rfl,⟨fun h5=> ?_,fun h5=> ?_⟩⟩
  · exact rdQ_mk 4 _ (rdQ_mk 4 _ (fin2 (chain_add_ov (by assumption) (by assumption) (by assumption) (by assumption) ‹_›) R4_zero vI_zero))
  exact rdQ_mk 4 _ (rdQ_mk 4 _ (rdQ_mk 4 _ (fin2 (chain_add_ok (by assumption) (by assumption) (by assumption) (by assumption) ‹_›) (R4_num4 (by assumption) (by assumption) (by assumption) (by assumption)) (vI_num4 (by assumption) (by assumption) (by assumption) (by assumption)))))
abbrev huge_chainAdd_K (a b:Int) (KK:(Int×Int)->Prop):Prop:=huge_chainAdd_A a b (fun za zh zv zu zp=>callQr Tryz.prog 78 za zh (Int×Int) zv zp KK)
theorem huge_chainAdd_m (a b:Int) {KK:(Int×Int)->Prop} (kont: ∀zx:Int×Int,R4 zx.1->(zx=hAdd a b)->KK zx) (r_a:R4 a:=by assumption) (r_b:R4 b:=by assumption):huge_chainAdd_K a b KK:=callQr_mk (huge_chainAdd a b r_a r_b) (⟨hAdd (num (vI a)) (num (vI b)),hAdd_R (R4_num _) (R4_num _),rfl⟩) fun zx hz=>by
  obtain ⟨rhz_1,hz⟩:=hz
  try simp only [num_vI (n:=a) r_a,num_vI (n:=b) r_b] at hz
  exact kont zx rhz_1 hz
def huge_chainSub_C:List Value->List Slot->Ctr:=fun vs hs=>⟨Int×Int,fun zx=> .tuple #[vI zx.1, .int .i64 zx.2],fun _=>hs,fun zx=>R4 zx.1/\zx=hSub (num (varg vs 1)) (num (varg vs 2))⟩
abbrev huge_chainSub_Q (a b:Int) (zv:Value) :Prop:= ∃zx:Int×Int,(R4 zx.1/\zx=hSub (num (vI a)) (num (vI b)))/\zv= .tuple #[vI zx.1, .int .i64 zx.2]/\True
abbrev huge_chainSub_A (a b:Int) (zF:SF (Int×Int)):Prop:=zF #[vI a,vI b, .func (.func 83) #[] #[]] [] (fun zx=> .tuple #[vI zx.1, .int .i64 zx.2]) (fun zx=> []) (fun zx=>(R4 zx.1/\zx=hSub (num (vI a)) (num (vI b))))
set_option maxRecDepth 100000 in
theorem huge_chainSub_vc (a b:Int):huge_chainSub_A a b (fun za zh zv zu zp=>codeW Tryz.prog 33 none 2000 none (bodyOf Tryz.f78) (.reg [.sem [.nw 0], .sem [.nw 1], .sem [.nw 2],S0] (.reg [.sem [.nw 3]] (.reg [S0] (.reg [S0] (.reg [S0] (.condT (.reg [S0,S0] (.reg [S0,S0,S0,S0, .sem [.rd 0],S0,S0, .sem [.rd 1],S0, .callr [] limb_Sub_C,S0,S0,S0,S0, .sem [.wr 3],S0] (.reg [S0,S0] (.reg [S0] (.condT (.reg [S0,S0] (.reg [S0,S0,S0,S0, .sem [.rd 0],S0,S0, .sem [.rd 1],S0, .callr [] limb_Sub_C,S0,S0,S0,S0, .sem [.wr 3],S0] (.reg [S0,S0] (.reg [S0] (.condT (.reg [S0,S0] (.reg [S0,S0,S0,S0, .sem [.rd 0],S0,S0, .sem [.rd 1],S0, .callr [] limb_Sub_C,S0,S0,S0,S0, .sem [.wr 3],S0] (.reg [S0,S0] (.reg [S0] (.condT (.reg [S0,S0] (.reg [S0,S0,S0,S0, .sem [.rd 0],S0,S0, .sem [.rd 1],S0, .callr [] limb_Sub_C,S0,S0,S0,S0, .sem [.wr 3],S0] (.reg [S0,S0] (.reg [S0] (.condF (.reg [S0,S0] (.cond (.reg [S0, .sem (wrs 4 2),S0] (.done)) (.reg [.sem (rds 4 3), .sem (wrs 4 2),S0] (.done))))))))))))))))))))))))))))))
    (init za zh) (finW Tryz.prog Tryz.f78 [.rd 2, .rd 2, .rd 2, .rd 2] [] (X:=Int×Int) zv zu zp))=
    (∀b1:Nat,∀b2:Nat,∀b3:Nat,∀b4:Nat,(true=true)/\rdQ 1 b1 (rdQ 1 b2 (limb_Sub_K (lim a 0) (lim b 0) (0:Int) (fun x5=>rdQ 1 b4 ((true=true)/\rdQ 1 b1 (rdQ 1 b2 (limb_Sub_K (lim a 1) (lim b 1) x5.2 (fun x6=>rdQ 1 b4 ((true=true)/\rdQ 1 b1 (rdQ 1 b2 (limb_Sub_K (lim a 2) (lim b 2) x6.2 (fun x7=>rdQ 1 b4 ((true=true)/\rdQ 1 b1 (rdQ 1 b2 (limb_Sub_K (lim a 3) (lim b 3) x7.2 (fun x8=>rdQ 1 b4 ((false=false)/\((x8.2 !=(0:Int))=true->rdQ 4 b3 (rdQ 4 b3 (huge_chainSub_Q a b (Value.tuple #[.agg #[uu 0,uu 0,uu 0,uu 0], .int .i64 2]))))/\((x8.2 !=(0:Int))=false->rdQ 4 b4 (rdQ 4 b3 (rdQ 4 b3 (huge_chainSub_Q a b (Value.tuple #[.agg #[uu x5.1,uu x6.1,uu x7.1,uu x8.1], .int .i64 0])))))))))))))))))))))):=by kernel_rfl
set_option maxRecDepth 100000 in
theorem huge_chainSub (a b:Int) (r_a:R4 a) (r_b:R4 b):huge_chainSub_A a b (fun za zh zv zu zp=>CallT Tryz.prog 78 za zh (Int×Int) zv zu zp):=by
  refine call_of (c:=bodyOf Tryz.f78) (n:=33) (fn:=Tryz.f78) Tryz.mixed Tryz.func78 (by kernel_rfl) (by kernel_rfl) (by kernel_rfl) 2000 _ [.rd 2, .rd 2, .rd 2, .rd 2] [] rfl rfl (Eq.mpr (huge_chainSub_vc a b) ?_)
  intro b1
  intro b2
  intro b3
  intro b4
  refine ⟨rfl,rdQ_mk 1 _ (rdQ_mk 1 _ (limb_Sub_m (lim a 0) (lim b 0) (0:Int) (fun x5 h1=> ?_)))⟩
  have wh1:=h1.s
  refine rdQ_mk 1 _ ⟨rfl,rdQ_mk 1 _ (rdQ_mk 1 _ (limb_Sub_m (lim a 1) (lim b 1) x5.2 (fun x6 h2=> ?_)))⟩
  have wh2:=h2.s
  refine rdQ_mk 1 _ ⟨rfl,rdQ_mk 1 _ (rdQ_mk 1 _ (limb_Sub_m (lim a 2) (lim b 2) x6.2 (fun x7 h3=> ?_)))⟩
  have wh3:=h3.s
  refine rdQ_mk 1 _ ⟨rfl,rdQ_mk 1 _ (rdQ_mk 1 _ (limb_Sub_m (lim a 3) (lim b 3) x7.2 (fun x8 h4=> ?_)))⟩
  have wh4:=h4.s
  refine rdQ_mk 1 _ ⟨rfl,⟨fun h5=> ?_,fun h5=> ?_⟩⟩
  · exact rdQ_mk 4 _ (rdQ_mk 4 _ (fin2 (chain_sub_ov (by assumption) (by assumption) (by assumption) (by assumption) ‹_›) R4_zero vI_zero))
  exact rdQ_mk 4 _ (rdQ_mk 4 _ (rdQ_mk 4 _ (fin2 (chain_sub_ok (by assumption) (by assumption) (by assumption) (by assumption) ‹_›) (R4_num4 (by assumption) (by assumption) (by assumption) (by assumption)) (vI_num4 (by assumption) (by assumption) (by assumption) (by assumption)))))
abbrev huge_chainSub_K (a b:Int) (KK:(Int×Int)->Prop):Prop:=huge_chainSub_A a b (fun za zh zv zu zp=>callQr Tryz.prog 78 za zh (Int×Int) zv zp KK)
theorem huge_chainSub_m (a b:Int) {KK:(Int×Int)->Prop} (kont: ∀zx:Int×Int,R4 zx.1->(zx=hSub a b)->KK zx) (r_a:R4 a:=by assumption) (r_b:R4 b:=by assumption):huge_chainSub_K a b KK:=callQr_mk (huge_chainSub a b r_a r_b) (⟨hSub (num (vI a)) (num (vI b)),hSub_R (R4_num _) (R4_num _),rfl⟩) fun zx hz=>by
  obtain ⟨rhz_1,hz⟩:=hz
  try simp only [num_vI (n:=a) r_a,num_vI (n:=b) r_b] at hz
  exact kont zx rhz_1 hz
def huge_Add_C:List Value->List Slot->Ctr:=fun vs hs=>⟨Int×Int,fun zx=> .tuple #[vI zx.1, .int .i64 zx.2],fun _=>hs,fun zx=>R4 zx.1/\zx=hAdd (num (varg vs 1)) (num (varg vs 2))⟩
abbrev huge_Add_Q (a b:Int) (zv:Value) :Prop:= ∃zx:Int×Int,(R4 zx.1/\zx=hAdd (num (vI a)) (num (vI b)))/\zv= .tuple #[vI zx.1, .int .i64 zx.2]/\True
abbrev huge_Add_A (a b:Int) (zF:SF (Int×Int)):Prop:=zF #[vI a,vI b] [] (fun zx=> .tuple #[vI zx.1, .int .i64 zx.2]) (fun zx=> []) (fun zx=>(R4 zx.1/\zx=hAdd (num (vI a)) (num (vI b))))
set_option maxRecDepth 100000 in
theorem huge_Add_vc (a b:Int):huge_Add_A a b (fun za zh zv zu zp=>codeW Tryz.prog 11 none 2000 none (bodyOf Tryz.f54) (.reg [.sem [.nw 0], .sem [.nw 1], .sem [.nw 2],S0] (.reg [.sem (rds 4 0), .sem (rds 4 1), .callr [] huge_chainAdd_C,S0,S0, .sem (wrs 4 2),S0] (.done)))
    (init za zh) (finW Tryz.prog Tryz.f54 [.rd 2, .rd 2, .rd 2, .rd 2] [] (X:=Int×Int) zv zu zp))=
    (∀b1:Nat,∀b2:Nat,∀b3:Nat,rdQ 4 b1 (rdQ 4 b2 (huge_chainAdd_K a b (fun x4=>rdQ 4 b3 (rdQ 4 b3 (huge_Add_Q a b (Value.tuple #[vI x4.1, .int .i64 x4.2]))))))):=by kernel_rfl
set_option maxRecDepth 100000 in
theorem huge_Add (a b:Int) (r_a:R4 a) (r_b:R4 b):huge_Add_A a b (fun za zh zv zu zp=>CallT Tryz.prog 54 za zh (Int×Int) zv zu zp):=by
  refine call_of (c:=bodyOf Tryz.f54) (n:=11) (fn:=Tryz.f54) Tryz.mixed Tryz.func54 (by kernel_rfl) (by kernel_rfl) (by kernel_rfl) 2000 _ [.rd 2, .rd 2, .rd 2, .rd 2] [] rfl rfl (Eq.mpr (huge_Add_vc a b) ?_)
  intro b1
  intro b2
  intro b3
  exact rdQ_mk 4 _ (rdQ_mk 4 _ (huge_chainAdd_m a b (fun x4 rh1_1 h1=>rdQ_mk 4 _ (rdQ_mk 4 _ ⟨_,⟨rh1_1,by rw [num_vI r_a,num_vI r_b];exact h1⟩,rfl,trivial⟩))))
abbrev huge_Add_K (a b:Int) (KK:(Int×Int)->Prop):Prop:=huge_Add_A a b (fun za zh zv zu zp=>callQr Tryz.prog 54 za zh (Int×Int) zv zp KK)
theorem huge_Add_m (a b:Int) {KK:(Int×Int)->Prop} (kont: ∀zx:Int×Int,R4 zx.1->(zx=hAdd a b)->KK zx) (r_a:R4 a:=by assumption) (r_b:R4 b:=by assumption):huge_Add_K a b KK:=callQr_mk (huge_Add a b r_a r_b) (⟨hAdd (num (vI a)) (num (vI b)),hAdd_R (R4_num _) (R4_num _),rfl⟩) fun zx hz=>by
  obtain ⟨rhz_1,hz⟩:=hz
  try simp only [num_vI (n:=a) r_a,num_vI (n:=b) r_b] at hz
  exact kont zx rhz_1 hz
def huge_Sub_C:List Value->List Slot->Ctr:=fun vs hs=>⟨Int×Int,fun zx=> .tuple #[vI zx.1, .int .i64 zx.2],fun _=>hs,fun zx=>R4 zx.1/\zx=hSub (num (varg vs 1)) (num (varg vs 2))⟩
abbrev huge_Sub_Q (a b:Int) (zv:Value) :Prop:= ∃zx:Int×Int,(R4 zx.1/\zx=hSub (num (vI a)) (num (vI b)))/\zv= .tuple #[vI zx.1, .int .i64 zx.2]/\True
abbrev huge_Sub_A (a b:Int) (zF:SF (Int×Int)):Prop:=zF #[vI a,vI b] [] (fun zx=> .tuple #[vI zx.1, .int .i64 zx.2]) (fun zx=> []) (fun zx=>(R4 zx.1/\zx=hSub (num (vI a)) (num (vI b))))
set_option maxRecDepth 100000 in
theorem huge_Sub_vc (a b:Int):huge_Sub_A a b (fun za zh zv zu zp=>codeW Tryz.prog 11 none 2000 none (bodyOf Tryz.f57) (.reg [.sem [.nw 0], .sem [.nw 1], .sem [.nw 2],S0] (.reg [.sem (rds 4 0), .sem (rds 4 1), .callr [] huge_chainSub_C,S0,S0, .sem (wrs 4 2),S0] (.done)))
    (init za zh) (finW Tryz.prog Tryz.f57 [.rd 2, .rd 2, .rd 2, .rd 2] [] (X:=Int×Int) zv zu zp))=
    (∀b1:Nat,∀b2:Nat,∀b3:Nat,rdQ 4 b1 (rdQ 4 b2 (huge_chainSub_K a b (fun x4=>rdQ 4 b3 (rdQ 4 b3 (huge_Sub_Q a b (Value.tuple #[vI x4.1, .int .i64 x4.2]))))))):=by kernel_rfl
set_option maxRecDepth 100000 in
theorem huge_Sub (a b:Int) (r_a:R4 a) (r_b:R4 b):huge_Sub_A a b (fun za zh zv zu zp=>CallT Tryz.prog 57 za zh (Int×Int) zv zu zp):=by
  refine call_of (c:=bodyOf Tryz.f57) (n:=11) (fn:=Tryz.f57) Tryz.mixed Tryz.func57 (by kernel_rfl) (by kernel_rfl) (by kernel_rfl) 2000 _ [.rd 2, .rd 2, .rd 2, .rd 2] [] rfl rfl (Eq.mpr (huge_Sub_vc a b) ?_)
  intro b1
  intro b2
  intro b3
  exact rdQ_mk 4 _ (rdQ_mk 4 _ (huge_chainSub_m a b (fun x4 rh1_1 h1=>rdQ_mk 4 _ (rdQ_mk 4 _ ⟨_,⟨rh1_1,by rw [num_vI r_a,num_vI r_b];exact h1⟩,rfl,trivial⟩))))
abbrev huge_Sub_K (a b:Int) (KK:(Int×Int)->Prop):Prop:=huge_Sub_A a b (fun za zh zv zu zp=>callQr Tryz.prog 57 za zh (Int×Int) zv zp KK)
theorem huge_Sub_m (a b:Int) {KK:(Int×Int)->Prop} (kont: ∀zx:Int×Int,R4 zx.1->(zx=hSub a b)->KK zx) (r_a:R4 a:=by assumption) (r_b:R4 b:=by assumption):huge_Sub_K a b KK:=callQr_mk (huge_Sub a b r_a r_b) (⟨hSub (num (vI a)) (num (vI b)),hSub_R (R4_num _) (R4_num _),rfl⟩) fun zx hz=>by
  obtain ⟨rhz_1,hz⟩:=hz
  try simp only [num_vI (n:=a) r_a,num_vI (n:=b) r_b] at hz
  exact kont zx rhz_1 hz
theorem Tryz.xeq29 (a b:Int):PureRun Tryz.prog (xBin .eql 29 (vI a) (vI b)) (.bool (num (vI a)==num (vI b))):=xeq4 (e:=27) (by kernel_rfl) (by kernel_rfl) (fun w=>by kernel_rfl) (fun w=>by kernel_rfl) (by kernel_rfl) a b
theorem Tryz.xne29 (a b:Int):PureRun Tryz.prog (xBin .neq 29 (vI a) (vI b)) (.bool (num (vI a) !=num (vI b))):=xne4 (e:=27) (by kernel_rfl) (by kernel_rfl) (fun w=>by kernel_rfl) (fun w=>by kernel_rfl) (by kernel_rfl) a b
theorem Tryz.kls99:KL Tryz.prog 99 (fun v=> ∃n0 n1:Int,v= .agg #[.int .u8 n0, .int .u8 n1]):=kl_struct2 (f0:=(Tryz.prog.fieldsOf 99).getD 0 default) (f1:=(Tryz.prog.fieldsOf 99).getD 1 default) (by kernel_rfl) (by kernel_rfl) (by kernel_rfl) (by kernel_rfl) (by kernel_rfl) (by kernel_rfl) (by kernel_rfl) (by kernel_rfl) (fun w=>by kernel_rfl) (fun w=>by kernel_rfl) (fun b a c w=>by kernel_rfl)
def Tryz.jk:JK:=⟨63,1⟩
theorem Tryz.sl61:SlT Tryz.prog 61 1 .nilFunc:=SlT.of (by kernel_rfl) (by kernel_rfl) (by kernel_rfl) (by kernel_rfl) rfl
abbrev stage_Mark_raw_Q (bj:Nat) (row:Rw) (zv:Value) (zs0:Slot) (zs1:Slot):Prop:= ∃_:Unit,(True)/\zv= .int .i64 ((vlen (sv row):Nat):Int)/\zs0=bk bj #[sv row] 63/\zs1=(ss 1 row)/\True
set_option maxRecDepth 100000 in
theorem stage_Mark_raw_vc (bj:Nat) (row:Rw):codeW Tryz.prog 8 none 2000 none (bodyOf Tryz.f22) (.reg [S0] (.reg [S0,S0,S0, .sem [.rd 0], .eq (f_len),S0] (.done)))
    (init #[pp bj 0] [bk bj #[sv row] 63,(ss 1 row)]) (finW Tryz.prog Tryz.f22 [] [0,1] (X:=Unit) (fun _=> .int .i64 ((vlen (sv row):Nat):Int)) (fun _=> [bk bj #[sv row] 63,(ss 1 row)]) (fun _=>True))=
    (rdQ 1 bj ((PureRun Tryz.prog (vS (Builtin.len_ #[61] 3 #[sv row])) (.int .i64 ((vlen (sv row):Nat):Int)))/\stage_Mark_raw_Q bj row (Value.int .i64 ((vlen (sv row):Nat):Int)) (bk bj #[sv row] 63) (ss 1 row))):=by kernel_rfl
set_option maxRecDepth 100000 in
theorem stage_Mark_raw (bj:Nat) (row:Rw) :CallT Tryz.prog 22 #[pp bj 0] [bk bj #[sv row] 63,(ss 1 row)] Unit (fun _=> .int .i64 ((vlen (sv row):Nat):Int)) (fun _=> [bk bj #[sv row] 63,(ss 1 row)]) (fun _=>True):=by
  refine call_of (c:=bodyOf Tryz.f22) (n:=8) (fn:=Tryz.f22) Tryz.mixed Tryz.func22 (by kernel_rfl) (by kernel_rfl) (by kernel_rfl) 2000 _ [] [0,1] rfl rfl (Eq.mpr (stage_Mark_raw_vc bj row) ?_)
  exact rdQ_mk 1 _ ⟨xlen Tryz.sl61 3 row,⟨(),trivial,rfl,rfl,rfl,trivial⟩⟩
def stage_Mark_C:List Value->List Slot->Ctr:=fun vs hs=>⟨Int,fun zx=> .int .i64 zx,fun _=>hs,fun zx=>zx=((((sents (sarg hs 0)):List Ent).length:Nat):Int)⟩
theorem stage_Mark (bj:Nat) (L:List Ent) :CallT Tryz.prog 22 #[.pointer (some ⟨bj,0,none⟩)] [(jS Tryz.jk bj L)] Int (fun zx=> .int .i64 zx) (fun zx=> [(jS Tryz.jk bj L)]) (fun zx=>(zx=(((L:List Ent).length:Nat):Int))):=by
  refine jS_read (enterOK (c:=bodyOf Tryz.f22) Tryz.func22 (by kernel_rfl) (by kernel_rfl)) fun row _ hl=> ?_
  exact (stage_Mark_raw bj row).exists fun _ _=>⟨_,rfl,by rw [vlen_sv,hl],Imp.refl _⟩
abbrev stage_Keep_raw_Q (bj:Nat) (row:Rw) (zv:Value) (zs0:Slot):Prop:= ∃_:Unit,(True)/\zv= .tuple #[]/\zs0=bk bj #[.slice none 0 0] 63/\True
set_option maxRecDepth 100000 in
theorem stage_Keep_raw_vc (bj:Nat) (row:Rw):codeW Tryz.prog 5 none 2000 none (bodyOf Tryz.f26) (.reg [S0,S0,S0, .sem [.wr 0]] (.done))
    (init #[pp bj 0] [bk bj #[sv row] 63]) (finW Tryz.prog Tryz.f26 [] [0] (X:=Unit) (fun _=> .tuple #[]) (fun _=> [bk bj #[.slice none 0 0] 63]) (fun _=>True))=
    (rdQ 1 bj (stage_Keep_raw_Q bj row (Value.tuple #[]) (bk bj #[.slice none 0 0] 63))):=by kernel_rfl
set_option maxRecDepth 100000 in
theorem stage_Keep_raw (bj:Nat) (row:Rw) :CallT Tryz.prog 26 #[pp bj 0] [bk bj #[sv row] 63] Unit (fun _=> .tuple #[]) (fun _=> [bk bj #[.slice none 0 0] 63]) (fun _=>True):=by
  refine call_of (c:=bodyOf Tryz.f26) (n:=5) (fn:=Tryz.f26) Tryz.mixed Tryz.func26 (by kernel_rfl) (by kernel_rfl) (by kernel_rfl) 2000 _ [] [0] rfl rfl (Eq.mpr (stage_Keep_raw_vc bj row) ?_)
  exact rdQ_mk 1 _ ⟨(),trivial,rfl,rfl,trivial⟩
def stage_Keep_C:List Value->List Slot->Ctr:=fun vs hs=>⟨Unit,fun _=> .tuple #[],fun _=> [(jS Tryz.jk (vblk (varg vs 1)) ([]))],fun _=>True⟩
theorem stage_Keep (bj:Nat) (L:List Ent) :CallT Tryz.prog 26 #[.pointer (some ⟨bj,0,none⟩)] [(jS Tryz.jk bj L)] Unit (fun _=> .tuple #[]) (fun _=> [(jS Tryz.jk bj ([]))]) (fun _=>True):=jS_keep (enterOK (c:=bodyOf Tryz.f26) Tryz.func26 (by kernel_rfl) (by kernel_rfl)) fun row=>stage_Keep_raw bj row
noncomputable def Tryz.ent138 (b:Nat) (m:KV) (key:Value):Ent:=⟨93,b,key,mget m key,vI 0,4,29,96,99⟩
def Tryz.mk138:MK:=⟨138,Value.func (.func 48) #[] #[],fun v=> ∃n0 n1:Int,v= .agg #[.int .u8 n0, .int .u8 n1],fun x=> ∃v,R4 v/\x=vI v⟩
theorem Tryz.kl138:KindL Tryz.prog Tryz.mk138 136 99 29 (vI 0) (V:=Int) vI R4:=⟨⟨by kernel_rfl,Tryz.kls99,fun w=>by kernel_rfl⟩,fun _=>Iff.rfl,⟨0,R4_zero,rfl⟩⟩
abbrev stage_New_raw138_Q (bj:Nat) (zv:Value) (zs0:Slot) (zs1:Slot):Prop:= ∃zx:Nat×Nat,(True)/\zv=pp zx.1 0/\zs0= .blk zx.1 (.cells #[.map (some zx.2),pp bj 0, .func (.func 48) #[] #[]] 138 (0,0))/\zs1= .blk zx.2 (.map #[] 0)/\True
set_option maxRecDepth 100000 in
theorem stage_New_raw138_vc (bj:Nat):codeW Tryz.prog 10 none 2000 none (bodyOf Tryz.f47) (.reg [S0] (.reg [.sem [.nw 21],S0,S0,S0, .sem [.nw 20],S0] (.done)))
    (init #[pp bj 0, .func (.func 48) #[] #[]] []) (finW Tryz.prog Tryz.f47 [] [20,21] (X:=Nat×Nat) (fun zx=>pp zx.1 0) (fun zx=> [.blk zx.1 (.cells #[.map (some zx.2),pp bj 0, .func (.func 48) #[] #[]] 138 (0,0)), .blk zx.2 (.map #[] 0)]) (fun _=>True))=
    (∀b1:Nat,∀b2:Nat,stage_New_raw138_Q bj (pp b2 0) (Slot.blk b2 (.cells #[.map (some b1),pp bj 0, .func (.func 48) #[] #[]] 138 (0,0))) (Slot.blk b1 (.map #[] 0))):=by kernel_rfl
set_option maxRecDepth 100000 in
theorem stage_New_raw138 (bj:Nat) :CallT Tryz.prog 47 #[pp bj 0, .func (.func 48) #[] #[]] [] (Nat×Nat) (fun zx=>pp zx.1 0) (fun zx=> [.blk zx.1 (.cells #[.map (some zx.2),pp bj 0, .func (.func 48) #[] #[]] 138 (0,0)), .blk zx.2 (.map #[] 0)]) (fun _=>True):=by
  refine call_of (c:=bodyOf Tryz.f47) (n:=10) (fn:=Tryz.f47) Tryz.mixed Tryz.func47 (by kernel_rfl) (by kernel_rfl) (by kernel_rfl) 2000 _ [] [20,21] rfl rfl (Eq.mpr (stage_New_raw138_vc bj) ?_)
  intro b1
  intro b2
  exact ⟨(b2,b1),trivial,rfl,rfl,rfl,trivial⟩
def stage_New138_C:List Value->List Slot->Ctr:=fun vs hs=>⟨Nat,fun zx=>pp zx 0,fun zx=> [(mS Tryz.mk138 zx (vblk (varg vs 1)) ([]))],fun zx=>True⟩
theorem stage_New138 (bj:Nat) :CallT Tryz.prog 47 #[.pointer (some ⟨bj,0,none⟩), .func (.func 48) #[] #[]] [] Nat (fun zx=> .pointer (some ⟨zx,0,none⟩)) (fun zx=> [(mS Tryz.mk138 zx bj ([]))]) (fun zx=>(True)):=(stage_New_raw138 bj).exists fun x _=>⟨x.1,trivial,rfl,new_fold (K:=Tryz.mk138) x.1 x.2 bj⟩
abbrev stage_Get_raw138_Q (b bj r:Nat) (m:KV) (k0 k1:Int) (zv:Value) (zs0:Slot) (zs1:Slot):Prop:= ∃zx:Int×Bool,(zx.1=num ((mget m (Value.agg #[.int .u8 k0, .int .u8 k1])).getD (vI 0))/\zx.2=(mget m (Value.agg #[.int .u8 k0, .int .u8 k1])).isSome)/\zv= .tuple #[vI zx.1, .bool zx.2]/\zs0= .blk b (.cells #[.map (some r),pp bj 0, .func (.func 48) #[] #[]] 138 (0,0))/\zs1=(mo r m)/\True
set_option maxRecDepth 100000 in
theorem stage_Get_raw138_vc (b bj r:Nat) (m:KV) (k0 k1:Int):codeW Tryz.prog 19 none 2000 none (bodyOf Tryz.f70) (.reg [.sem [.nw 2], .sem [.nw 3],S0] (.reg [S0,S0,S0, .sem [.rd 0], .sem [.rd 2, .rd 2], .specr [1] (F_look (V:=Int) vI R4 (vI 0)),S0,S0,S0, .sem [.nw 4], .sem (wrs 4 4),S0] (.reg [.sem (rds 4 4),S0, .sem (wrs 4 3),S0] (.done))))
    (init #[pp b 0, .agg #[.int .u8 k0, .int .u8 k1]] [.blk b (.cells #[.map (some r),pp bj 0, .func (.func 48) #[] #[]] 138 (0,0)),(mo r m)]) (finW Tryz.prog Tryz.f70 [.rd 3, .rd 3, .rd 3, .rd 3] [0,1] (X:=Int×Bool) (fun zx=> .tuple #[vI zx.1, .bool zx.2]) (fun zx=> [.blk b (.cells #[.map (some r),pp bj 0, .func (.func 48) #[] #[]] 138 (0,0)),(mo r m)]) (fun zx=>(zx.1=num ((mget m (Value.agg #[.int .u8 k0, .int .u8 k1])).getD (vI 0))/\zx.2=(mget m (Value.agg #[.int .u8 k0, .int .u8 k1])).isSome)))=
    (∀b1:Nat,∀b2:Nat,rdQ 1 b (rdQ 2 b1 (opQr Tryz.prog (vS (Instr.lookup 136 (.map (some r)) (.agg #[.int .u8 k0, .int .u8 k1]) true)) [(mo r m)] (Int×Bool) (fun zx=> .tuple #[vI zx.1, .bool zx.2]) (fun zx=>R4 zx.1/\zx.2=(mget m (Value.agg #[.int .u8 k0, .int .u8 k1])).isSome/\vI zx.1=(mget m (Value.agg #[.int .u8 k0, .int .u8 k1])).getD (vI 0)) (fun x3=> ∀b4:Nat,rdQ 4 b4 (rdQ 4 b4 (rdQ 4 b2 (rdQ 4 b2 (stage_Get_raw138_Q b bj r m k0 k1 (Value.tuple #[vI x3.1, .bool x3.2]) (Slot.blk b (.cells #[.map (some r),pp bj 0, .func (.func 48) #[] #[]] 138 (0,0))) (mo r m))))))))):=by kernel_rfl
set_option maxRecDepth 100000 in
theorem stage_Get_raw138 (b bj r:Nat) (m:KV) (k0 k1:Int) (hk:KOK Tryz.mk138 m):CallT Tryz.prog 70 #[pp b 0, .agg #[.int .u8 k0, .int .u8 k1]] [.blk b (.cells #[.map (some r),pp bj 0, .func (.func 48) #[] #[]] 138 (0,0)),(mo r m)] (Int×Bool) (fun zx=> .tuple #[vI zx.1, .bool zx.2]) (fun zx=> [.blk b (.cells #[.map (some r),pp bj 0, .func (.func 48) #[] #[]] 138 (0,0)),(mo r m)]) (fun zx=>(zx.1=num ((mget m (Value.agg #[.int .u8 k0, .int .u8 k1])).getD (vI 0))/\zx.2=(mget m (Value.agg #[.int .u8 k0, .int .u8 k1])).isSome)):=by
  refine call_of (c:=bodyOf Tryz.f70) (n:=19) (fn:=Tryz.f70) Tryz.mixed Tryz.func70 (by kernel_rfl) (by kernel_rfl) (by kernel_rfl) 2000 _ [.rd 3, .rd 3, .rd 3, .rd 3] [0,1] rfl rfl (Eq.mpr (stage_Get_raw138_vc b bj r m k0 k1) ?_)
  intro b1
  intro b2
  refine rdQ_mk 1 _ (rdQ_mk 2 _ (opQr_mk (xlook Tryz.kl138 hk ⟨_,_,rfl⟩) (wlook Tryz.kl138 hk _) fun x3 h1=> ?_))
  have hx:=h1
  intro b4
  exact rdQ_mk 4 _ (rdQ_mk 4 _ (rdQ_mk 4 _ (rdQ_mk 4 _ ⟨_,⟨by rw [←hx.2.2];exact (num_vI hx.1).symm,hx.2.1⟩,rfl,rfl,rfl,trivial⟩)))
def stage_Get138_C:List Value->List Slot->Ctr:=fun vs hs=>⟨Int×Bool,fun zx=> .tuple #[vI zx.1, .bool zx.2],fun _=>hs,fun zx=>zx.1=num ((mget (skv (sarg hs 0)) (varg vs 2)).getD (vI 0))/\zx.2=(mget (skv (sarg hs 0)) (varg vs 2)).isSome⟩
theorem stage_Get138 (b bj:Nat) (m:KV) (k0 k1:Int) :CallT Tryz.prog 70 #[.pointer (some ⟨b,0,none⟩), .agg #[.int .u8 k0, .int .u8 k1]] [(mS Tryz.mk138 b bj m)] (Int×Bool) (fun zx=> .tuple #[vI zx.1, .bool zx.2]) (fun zx=> [(mS Tryz.mk138 b bj m)]) (fun zx=>(zx.1=num ((mget m (Value.agg #[.int .u8 k0, .int .u8 k1])).getD (vI 0))/\zx.2=(mget m (Value.agg #[.int .u8 k0, .int .u8 k1])).isSome)):=by
  refine (mS_call (m' :=fun _=>m) (us:=fun _=> []) (enterOK (c:=bodyOf Tryz.f70) Tryz.func70 (by kernel_rfl) (by kernel_rfl)) (fun r hk=> ?_) (fun _ _ h=>h))
  exact stage_Get_raw138 b bj r m k0 k1 hk
abbrev stage_note_raw138_Q (b bj r:Nat) (row:Rw) (m:KV) (k0 k1:Int) (zv:Value) (zs0:Slot) (zs1:Slot) (zs2:Slot) (zs3:Slot) (zs4:Slot) (zs5:Slot) (zs6:Slot) (zs7:Slot):Prop:= ∃zx:Row×N4×Int×Bool,(vals zx.1=vals row++ [(Tryz.ent138 b m (Value.agg #[.int .u8 k0, .int .u8 k1])).fn zx.2.1]/\zx.2.2.2=(mget m (Value.agg #[.int .u8 k0, .int .u8 k1])).isSome/\vI zx.2.2.1=(mget m (Value.agg #[.int .u8 k0, .int .u8 k1])).getD (vI 0))/\zv= .tuple #[]/\zs0= .blk b (.cells #[.map (some r),pp bj 0, .func (.func 48) #[] #[]] 138 (0,0))/\zs1=(mo r m)/\zs2=bk bj #[sv zx.1] 63/\zs3=(ss 1 zx.1)/\zs4=bk zx.2.1.1 #[.bool zx.2.2.2] 4/\zs5=bk zx.2.1.2.1 (nC zx.2.2.1) 29/\zs6=bk zx.2.1.2.2.1 #[pp b 0] 96/\zs7=bk zx.2.1.2.2.2 #[.int .u8 k0, .int .u8 k1] 99/\True
set_option maxRecDepth 100000 in
theorem stage_note_raw138_vc (b bj r:Nat) (row:Rw) (m:KV) (k0 k1:Int):codeW Tryz.prog 31 none 2000 none (bodyOf Tryz.f89) (.reg [.sem [.nw 32], .sem [.nw 33]] (.reg [.sem [.rd 32],S0,S0, .sem [.rd 0], .sem [.rd 33, .rd 33], .specr [1] (F_look (V:=Int) vI R4 (vI 0)),S0,S0,S0, .sem [.nw 31], .sem [.nw 30], .sem (wrs 4 31), .sem [.wr 30]] (.reg [.sem [.rd 32],S0,S0, .sem [.rd 0], .sem [.rd 32],S0,S0, .sem [.rd 0],S0,S0, .sem [.rd 2],S0, .sem [.nw 4], .specw [3,4] [3,4] (F_app 1),S0,S0, .specw [2] [2] F_put] (.done))))
    (init #[pp b 0, .agg #[.int .u8 k0, .int .u8 k1]] [.blk b (.cells #[.map (some r),pp bj 0, .func (.func 48) #[] #[]] 138 (0,0)),(mo r m),bk bj #[sv row] 63,(ss 1 row)]) (finW Tryz.prog Tryz.f89 [] [0,1,2,3,30,31,32,33] (X:=Row×N4×Int×Bool) (fun zx=> .tuple #[]) (fun zx=> [.blk b (.cells #[.map (some r),pp bj 0, .func (.func 48) #[] #[]] 138 (0,0)),(mo r m),bk bj #[sv zx.1] 63,(ss 1 zx.1),bk zx.2.1.1 #[.bool zx.2.2.2] 4,bk zx.2.1.2.1 (nC zx.2.2.1) 29,bk zx.2.1.2.2.1 #[pp b 0] 96,bk zx.2.1.2.2.2 #[.int .u8 k0, .int .u8 k1] 99]) (fun zx=>(vals zx.1=vals row++ [(Tryz.ent138 b m (Value.agg #[.int .u8 k0, .int .u8 k1])).fn zx.2.1]/\zx.2.2.2=(mget m (Value.agg #[.int .u8 k0, .int .u8 k1])).isSome/\vI zx.2.2.1=(mget m (Value.agg #[.int .u8 k0, .int .u8 k1])).getD (vI 0))))=
    (∀b1:Nat,∀b2:Nat,rdQ 1 b1 (rdQ 1 b (rdQ 2 b2 (opQr Tryz.prog (vS (Instr.lookup 136 (.map (some r)) (.agg #[.int .u8 k0, .int .u8 k1]) true)) [(mo r m)] (Int×Bool) (fun zx=> .tuple #[vI zx.1, .bool zx.2]) (fun zx=>R4 zx.1/\zx.2=(mget m (Value.agg #[.int .u8 k0, .int .u8 k1])).isSome/\vI zx.1=(mget m (Value.agg #[.int .u8 k0, .int .u8 k1])).getD (vI 0)) (fun x3=> ∀b4:Nat,∀b5:Nat,rdQ 4 b4 (rdQ 1 b5 (rdQ 1 b1 (rdQ 1 b (rdQ 1 b1 (rdQ 1 b (rdQ 1 bj (∀b6:Nat,opQ Tryz.prog (vS (Builtin.append_ #[61,61] 61 #[sv row, .slice (some ⟨b6,0,none⟩) 1 1])) [(ss 1 row), .blk b6 (.cells #[.func (.func 93) #[] #[pp b5 0,pp b4 0,pp b1 0,pp b2 0]] 1 (0,0))] Row (fun zx=>sv zx) (fun zx=> [(ss 1 zx), .blk b6 (.cells #[.func (.func 93) #[] #[pp b5 0,pp b4 0,pp b1 0,pp b2 0]] 1 (0,0))]) (fun zx=>vals zx=rvals (sv row) (ss 1 row)++ [Value.func (.func 93) #[] #[pp b5 0,pp b4 0,pp b1 0,pp b2 0]]) (fun x7=>opQ Tryz.prog (skS (Instr.storeAt 61 (pp bj 0) (sv x7))) [bk bj #[sv row] 63] Unit (fun _=> .tuple #[]) (fun _=> [bk bj #[sv x7] 63]) (fun _=>True) (fun _=>stage_note_raw138_Q b bj r row m k0 k1 (Value.tuple #[]) (Slot.blk b (.cells #[.map (some r),pp bj 0, .func (.func 48) #[] #[]] 138 (0,0))) (mo r m) (bk bj #[sv x7] 63) (ss 1 x7) (bk b5 #[.bool x3.2] 4) (bk b4 (nC x3.1) 29) (bk b1 #[pp b 0] 96) (bk b2 #[.int .u8 k0, .int .u8 k1] 99))))))))))))))):=by kernel_rfl
set_option maxRecDepth 100000 in
theorem stage_note_raw138 (b bj r:Nat) (row:Rw) (m:KV) (k0 k1:Int) (hk:KOK Tryz.mk138 m) (hl:(vals row).length<=1073741824):CallT Tryz.prog 89 #[pp b 0, .agg #[.int .u8 k0, .int .u8 k1]] [.blk b (.cells #[.map (some r),pp bj 0, .func (.func 48) #[] #[]] 138 (0,0)),(mo r m),bk bj #[sv row] 63,(ss 1 row)] (Row×N4×Int×Bool) (fun zx=> .tuple #[]) (fun zx=> [.blk b (.cells #[.map (some r),pp bj 0, .func (.func 48) #[] #[]] 138 (0,0)),(mo r m),bk bj #[sv zx.1] 63,(ss 1 zx.1),bk zx.2.1.1 #[.bool zx.2.2.2] 4,bk zx.2.1.2.1 (nC zx.2.2.1) 29,bk zx.2.1.2.2.1 #[pp b 0] 96,bk zx.2.1.2.2.2 #[.int .u8 k0, .int .u8 k1] 99]) (fun zx=>(vals zx.1=vals row++ [(Tryz.ent138 b m (Value.agg #[.int .u8 k0, .int .u8 k1])).fn zx.2.1]/\zx.2.2.2=(mget m (Value.agg #[.int .u8 k0, .int .u8 k1])).isSome/\vI zx.2.2.1=(mget m (Value.agg #[.int .u8 k0, .int .u8 k1])).getD (vI 0))):=by
  refine call_of (c:=bodyOf Tryz.f89) (n:=31) (fn:=Tryz.f89) Tryz.mixed Tryz.func89 (by kernel_rfl) (by kernel_rfl) (by kernel_rfl) 2000 _ [] [0,1,2,3,30,31,32,33] rfl rfl (Eq.mpr (stage_note_raw138_vc b bj r row m k0 k1) ?_)
  intro b1
  intro b2
  refine rdQ_mk 1 _ (rdQ_mk 1 _ (rdQ_mk 2 _ (opQr_mk (xlook Tryz.kl138 hk ⟨_,_,rfl⟩) (wlook Tryz.kl138 hk _) fun x3 h1=> ?_)))
  have hx:=h1
  intro b4
  intro b5
  refine rdQ_mk 4 _ (rdQ_mk 1 _ (rdQ_mk 1 _ (rdQ_mk 1 _ (rdQ_mk 1 _ (rdQ_mk 1 _ (rdQ_mk 1 _ (fun b6=>opQ_mk (xappendR Tryz.sl61 61 row (by rw [dg_len];omega) b6 1 (Value.func (.func 93) #[] #[pp b5 0,pp b4 0,pp b1 0,pp b2 0]) rfl) (wit_app _) fun x7 h2=> ?_)))))))
  rw [rvals_eq] at h2
  have ha:=h2
  exact opQ_mk (xputv (b:=bj) (cs:= #[sv row]) (ty:=63) (te:=61) (fun w=>by kernel_rfl) 0 (sv x7) (cells_sv _) (one_sv _) (by show 0<1;decide)) (⟨(),trivial⟩) fun _ _=>⟨(x7,(b5,b4,b1,b2),x3),⟨ha,hx.2.1,hx.2.2⟩,rfl,rfl,rfl,rfl,rfl,rfl,rfl,rfl,rfl,trivial⟩
def stage_note138_C:List Value->List Slot->Ctr:=fun vs hs=>⟨List Ent,fun zx=> .tuple #[],fun zx=> [.blk (vblk (varg vs 1)) (.cells #[.map (some (snum (sarg hs 1) 0)), .pointer (some ⟨(vblk (scell (sarg hs 0) 1)),0,none⟩), .func (.func 48) #[] #[]] 138 (0,0)),(mo (snum (sarg hs 1) 0) (skv (sarg hs 1))),(jS Tryz.jk (vblk (scell (sarg hs 0) 1)) zx)],fun zx=>zx=(sents (sarg hs 2))++ [(Tryz.ent138 (vblk (varg vs 1)) (skv (sarg hs 1)) (varg vs 2))]⟩
theorem stage_note138 (b bj r:Nat) (m:KV) (L:List Ent) (k0 k1:Int) (hk:KOK Tryz.mk138 m) (hl:L.length<=1073741824):CallT Tryz.prog 89 #[.pointer (some ⟨b,0,none⟩), .agg #[.int .u8 k0, .int .u8 k1]] [.blk b (.cells #[.map (some r), .pointer (some ⟨bj,0,none⟩), .func (.func 48) #[] #[]] 138 (0,0)),(mo r m),(jS Tryz.jk bj L)] (List Ent) (fun zx=> .tuple #[]) (fun zx=> [.blk b (.cells #[.map (some r), .pointer (some ⟨bj,0,none⟩), .func (.func 48) #[] #[]] 138 (0,0)),(mo r m),(jS Tryz.jk bj zx)]) (fun zx=>(zx=L++ [(Tryz.ent138 b m (Value.agg #[.int .u8 k0, .int .u8 k1]))])):=by
  have c:=jS_note (K:=Tryz.jk) (bj:=bj) (L:=L) (vv:=vI) (e:=(Tryz.ent138 b m (Value.agg #[.int .u8 k0, .int .u8 k1]))) (mk:=fun _=>default_ent) (enterOK (c:=bodyOf Tryz.f89) Tryz.func89 (by kernel_rfl) (by kernel_rfl)) rfl (fun row hr=>stage_note_raw138 b bj r row m k0 k1 hk (by omega))
  exact c.exists fun _ _=>⟨_,rfl,rfl,Imp.refl _⟩
abbrev stage_Set_raw138_Q (b bj r:Nat) (m:KV) (L:List Ent) (k0 k1 v:Int) (zv:Value) (zs0:Slot) (zs1:Slot) (zs2:Slot):Prop:= ∃zx:KV×List Ent,(zx.1=mset m (Value.agg #[.int .u8 k0, .int .u8 k1]) (vI v)/\zx.2=L++ [(Tryz.ent138 b m (Value.agg #[.int .u8 k0, .int .u8 k1]))])/\zv= .tuple #[]/\zs0= .blk b (.cells #[.map (some r),pp bj 0, .func (.func 48) #[] #[]] 138 (0,0))/\zs1=(mo r zx.1)/\zs2=(jS Tryz.jk bj zx.2)/\True
set_option maxRecDepth 100000 in
theorem stage_Set_raw138_vc (b bj r:Nat) (m:KV) (L:List Ent) (k0 k1 v:Int):codeW Tryz.prog 15 none 2000 none (bodyOf Tryz.f82) (.reg [.sem [.nw 3], .sem [.nw 4]] (.reg [S0, .sem [.rd 3, .rd 3], .callw [0,1,2] [0,1,2] stage_note138_C] (.reg [S0,S0,S0, .sem [.rd 0], .sem [.rd 3, .rd 3], .sem (rds 4 4), .specw [1] [1] F_upd] (.done))))
    (init #[pp b 0, .agg #[.int .u8 k0, .int .u8 k1],vI v] [.blk b (.cells #[.map (some r),pp bj 0, .func (.func 48) #[] #[]] 138 (0,0)),(mo r m),(jS Tryz.jk bj L)]) (finW Tryz.prog Tryz.f82 [] [0,1,2] (X:=KV×List Ent) (fun zx=> .tuple #[]) (fun zx=> [.blk b (.cells #[.map (some r),pp bj 0, .func (.func 48) #[] #[]] 138 (0,0)),(mo r zx.1),(jS Tryz.jk bj zx.2)]) (fun zx=>(zx.1=mset m (Value.agg #[.int .u8 k0, .int .u8 k1]) (vI v)/\zx.2=L++ [(Tryz.ent138 b m (Value.agg #[.int .u8 k0, .int .u8 k1]))])))=
    (∀b1:Nat,∀b2:Nat,rdQ 2 b1 (callQ Tryz.prog 89 #[pp b 0, .agg #[.int .u8 k0, .int .u8 k1]] [.blk b (.cells #[.map (some r),pp bj 0, .func (.func 48) #[] #[]] 138 (0,0)),(mo r m),(jS Tryz.jk bj L)] (List Ent) (fun zx=> .tuple #[]) (fun zx=> [.blk b (.cells #[.map (some r),pp bj 0, .func (.func 48) #[] #[]] 138 (0,0)),(mo r m),(jS Tryz.jk bj zx)]) (fun zx=>zx=L++ [(Tryz.ent138 b m (Value.agg #[.int .u8 k0, .int .u8 k1]))]) (fun x3=>rdQ 1 b (rdQ 2 b1 (rdQ 4 b2 (opQ Tryz.prog (skS (Instr.mapUpdate 136 (.map (some r)) (.agg #[.int .u8 k0, .int .u8 k1]) (vI v))) [(mo r m)] KV (fun zx=> .tuple #[]) (fun zx=> [(mo r zx)]) (fun zx=>zx=mset m (Value.agg #[.int .u8 k0, .int .u8 k1]) (vI v)) (fun x4=>stage_Set_raw138_Q b bj r m L k0 k1 v (Value.tuple #[]) (Slot.blk b (.cells #[.map (some r),pp bj 0, .func (.func 48) #[] #[]] 138 (0,0))) (mo r x4) (jS Tryz.jk bj x3)))))))):=by kernel_rfl
set_option maxRecDepth 100000 in
theorem stage_Set_raw138 (b bj r:Nat) (m:KV) (L:List Ent) (k0 k1 v:Int) (r_v:R4 v) (hk:KOK Tryz.mk138 m) (hl:L.length<=1073741824):CallT Tryz.prog 82 #[pp b 0, .agg #[.int .u8 k0, .int .u8 k1],vI v] [.blk b (.cells #[.map (some r),pp bj 0, .func (.func 48) #[] #[]] 138 (0,0)),(mo r m),(jS Tryz.jk bj L)] (KV×List Ent) (fun zx=> .tuple #[]) (fun zx=> [.blk b (.cells #[.map (some r),pp bj 0, .func (.func 48) #[] #[]] 138 (0,0)),(mo r zx.1),(jS Tryz.jk bj zx.2)]) (fun zx=>(zx.1=mset m (Value.agg #[.int .u8 k0, .int .u8 k1]) (vI v)/\zx.2=L++ [(Tryz.ent138 b m (Value.agg #[.int .u8 k0, .int .u8 k1]))])):=by
  refine call_of (c:=bodyOf Tryz.f82) (n:=15) (fn:=Tryz.f82) Tryz.mixed Tryz.func82 (by kernel_rfl) (by kernel_rfl) (by kernel_rfl) 2000 _ [] [0,1,2] rfl rfl (Eq.mpr (stage_Set_raw138_vc b bj r m L k0 k1 v) ?_)
  intro b1
  intro b2
  refine rdQ_mk 2 _ (callQ_mk (stage_note138 b bj r m L k0 k1 (hk) (hl)) (⟨_,rfl⟩) fun x3 h1=> ?_)
  have hn:=h1
  refine rdQ_mk 1 _ (rdQ_mk 2 _ (rdQ_mk 4 _ (opQ_mk (xupd Tryz.kl138 hk ⟨_,_,rfl⟩ (vI v)) (⟨_,rfl⟩) fun x4 h2=> ?_)))
  have hs:=h2
  exact ⟨(_,_),⟨hs,hn⟩,rfl,rfl,rfl,rfl,trivial⟩
def stage_Set138_C:List Value->List Slot->Ctr:=fun vs hs=>⟨KV×List Ent,fun zx=> .tuple #[],fun zx=> [(mS Tryz.mk138 (vblk (varg vs 1)) (snum (sarg hs 0) 1) zx.1),(jS Tryz.jk (snum (sarg hs 0) 1) zx.2)],fun zx=>zx.1=mset (skv (sarg hs 0)) (varg vs 2) (varg vs 3)/\zx.2=(sents (sarg hs 1))++ [(Tryz.ent138 (vblk (varg vs 1)) (skv (sarg hs 0)) (varg vs 2))]⟩
theorem stage_Set138 (b bj:Nat) (m:KV) (L:List Ent) (k0 k1 v:Int) (r_v:R4 v)  (hl:L.length<=1073741824):CallT Tryz.prog 82 #[.pointer (some ⟨b,0,none⟩), .agg #[.int .u8 k0, .int .u8 k1],vI v] [(mS Tryz.mk138 b bj m),(jS Tryz.jk bj L)] (KV×List Ent) (fun zx=> .tuple #[]) (fun zx=> [(mS Tryz.mk138 b bj zx.1),(jS Tryz.jk bj zx.2)]) (fun zx=>(zx.1=mset m (Value.agg #[.int .u8 k0, .int .u8 k1]) (vI v)/\zx.2=L++ [(Tryz.ent138 b m (Value.agg #[.int .u8 k0, .int .u8 k1]))])):=by
  refine mS_call (m' :=fun x:KV×List Ent=>x.1) (us:=fun x=> [(jS Tryz.jk bj x.2)]) (enterOK (c:=bodyOf Tryz.f82) Tryz.func82 (by kernel_rfl) (by kernel_rfl)) (fun r hk=> ?_) (fun x hx h=> ?_)
  · exact (stage_Set_raw138 b bj r m L k0 k1 v r_v hk hl)
  · exact hx.1▸h.set (⟨_,_,rfl⟩) (⟨_,r_v,rfl⟩)
abbrev stage_Drop_raw138_Q (b bj r:Nat) (m:KV) (L:List Ent) (k0 k1:Int) (zv:Value) (zs0:Slot) (zs1:Slot) (zs2:Slot):Prop:= ∃zx:KV×List Ent×Bool,(zx.2.2=(mget m (Value.agg #[.int .u8 k0, .int .u8 k1])).isSome/\zx.1=mdel m (Value.agg #[.int .u8 k0, .int .u8 k1])/\zx.2.1=if (mget m (Value.agg #[.int .u8 k0, .int .u8 k1])).isSome then L++ [(Tryz.ent138 b m (Value.agg #[.int .u8 k0, .int .u8 k1]))] else L)/\zv= .bool zx.2.2/\zs0= .blk b (.cells #[.map (some r),pp bj 0, .func (.func 48) #[] #[]] 138 (0,0))/\zs1=(mo r zx.1)/\zs2=(jS Tryz.jk bj zx.2.1)/\True
set_option maxRecDepth 100000 in
theorem stage_Drop_raw138_vc (b bj r:Nat) (m:KV) (L:List Ent) (k0 k1:Int):codeW Tryz.prog 26 none 2000 none (bodyOf Tryz.f81) (.reg [.sem [.nw 3],S0] (.reg [S0,S0,S0, .sem [.rd 0], .sem [.rd 3, .rd 3], .specr [1] (F_look (V:=Int) vI R4 (vI 0)),S0,S0,S0, .sem [.nw 4], .sem (wrs 4 4),S0] (.reg [S0] (.cond (.reg [S0, .sem [.rd 3, .rd 3], .callw [0,1,2] [0,1,2] stage_note138_C] (.reg [S0,S0,S0, .sem [.rd 0], .sem [.rd 3, .rd 3], .specw [1] [1] F_del] (.reg [.gen [] (Sx.one (.bool true)),S0] (.done)))) (.reg [.gen [] (Sx.one (.bool false)),S0] (.done))))))
    (init #[pp b 0, .agg #[.int .u8 k0, .int .u8 k1]] [.blk b (.cells #[.map (some r),pp bj 0, .func (.func 48) #[] #[]] 138 (0,0)),(mo r m),(jS Tryz.jk bj L)]) (finW Tryz.prog Tryz.f81 [] [0,1,2] (X:=KV×List Ent×Bool) (fun zx=> .bool zx.2.2) (fun zx=> [.blk b (.cells #[.map (some r),pp bj 0, .func (.func 48) #[] #[]] 138 (0,0)),(mo r zx.1),(jS Tryz.jk bj zx.2.1)]) (fun zx=>(zx.2.2=(mget m (Value.agg #[.int .u8 k0, .int .u8 k1])).isSome/\zx.1=mdel m (Value.agg #[.int .u8 k0, .int .u8 k1])/\zx.2.1=if (mget m (Value.agg #[.int .u8 k0, .int .u8 k1])).isSome then L++ [(Tryz.ent138 b m (Value.agg #[.int .u8 k0, .int .u8 k1]))] else L)))=
    (∀b1:Nat,rdQ 1 b (rdQ 2 b1 (opQr Tryz.prog (vS (Instr.lookup 136 (.map (some r)) (.agg #[.int .u8 k0, .int .u8 k1]) true)) [(mo r m)] (Int×Bool) (fun zx=> .tuple #[vI zx.1, .bool zx.2]) (fun zx=>R4 zx.1/\zx.2=(mget m (Value.agg #[.int .u8 k0, .int .u8 k1])).isSome/\vI zx.1=(mget m (Value.agg #[.int .u8 k0, .int .u8 k1])).getD (vI 0)) (fun x2=> ∀b3:Nat,rdQ 4 b3 ((x2.2=true->rdQ 2 b1 (callQ Tryz.prog 89 #[pp b 0, .agg #[.int .u8 k0, .int .u8 k1]] [.blk b (.cells #[.map (some r),pp bj 0, .func (.func 48) #[] #[]] 138 (0,0)),(mo r m),(jS Tryz.jk bj L)] (List Ent) (fun zx=> .tuple #[]) (fun zx=> [.blk b (.cells #[.map (some r),pp bj 0, .func (.func 48) #[] #[]] 138 (0,0)),(mo r m),(jS Tryz.jk bj zx)]) (fun zx=>zx=L++ [(Tryz.ent138 b m (Value.agg #[.int .u8 k0, .int .u8 k1]))]) (fun x4=>rdQ 1 b (rdQ 2 b1 (opQ Tryz.prog (vS (Builtin.delete_ #[136,99] 0 #[.map (some r), .agg #[.int .u8 k0, .int .u8 k1]])) [(mo r m)] KV (fun zx=> .tuple #[]) (fun zx=> [(mo r zx)]) (fun zx=>zx=mdel m (Value.agg #[.int .u8 k0, .int .u8 k1])) (fun x5=>(∃_:Unit,True/\Value.bool x2.2= .bool true)/\ ∀_:Unit,(True)->stage_Drop_raw138_Q b bj r m L k0 k1 (Value.bool true) (Slot.blk b (.cells #[.map (some r),pp bj 0, .func (.func 48) #[] #[]] 138 (0,0))) (mo r x5) (jS Tryz.jk bj x4)))))))/\(x2.2=false->(∃_:Unit,True/\Value.bool x2.2= .bool false)/\ ∀_:Unit,(True)->stage_Drop_raw138_Q b bj r m L k0 k1 (Value.bool false) (Slot.blk b (.cells #[.map (some r),pp bj 0, .func (.func 48) #[] #[]] 138 (0,0))) (mo r m) (jS Tryz.jk bj L))))))):=by kernel_rfl
set_option maxRecDepth 100000 in
theorem stage_Drop_raw138 (b bj r:Nat) (m:KV) (L:List Ent) (k0 k1:Int) (hk:KOK Tryz.mk138 m) (hl:L.length<=1073741824):CallT Tryz.prog 81 #[pp b 0, .agg #[.int .u8 k0, .int .u8 k1]] [.blk b (.cells #[.map (some r),pp bj 0, .func (.func 48) #[] #[]] 138 (0,0)),(mo r m),(jS Tryz.jk bj L)] (KV×List Ent×Bool) (fun zx=> .bool zx.2.2) (fun zx=> [.blk b (.cells #[.map (some r),pp bj 0, .func (.func 48) #[] #[]] 138 (0,0)),(mo r zx.1),(jS Tryz.jk bj zx.2.1)]) (fun zx=>(zx.2.2=(mget m (Value.agg #[.int .u8 k0, .int .u8 k1])).isSome/\zx.1=mdel m (Value.agg #[.int .u8 k0, .int .u8 k1])/\zx.2.1=if (mget m (Value.agg #[.int .u8 k0, .int .u8 k1])).isSome then L++ [(Tryz.ent138 b m (Value.agg #[.int .u8 k0, .int .u8 k1]))] else L)):=by
  refine call_of (c:=bodyOf Tryz.f81) (n:=26) (fn:=Tryz.f81) Tryz.mixed Tryz.func81 (by kernel_rfl) (by kernel_rfl) (by kernel_rfl) 2000 _ [] [0,1,2] rfl rfl (Eq.mpr (stage_Drop_raw138_vc b bj r m L k0 k1) ?_)
  intro b1
  refine rdQ_mk 1 _ (rdQ_mk 2 _ (opQr_mk (xlook Tryz.kl138 hk ⟨_,_,rfl⟩) (wlook Tryz.kl138 hk _) fun x2 h1=> ?_))
  have hx:=h1
  intro b3
  refine rdQ_mk 4 _ ⟨fun h2=> ?_,fun h2=> ?_⟩
  · refine rdQ_mk 2 _ (callQ_mk (stage_note138 b bj r m L k0 k1 (hk) (hl)) (⟨_,rfl⟩) fun x4 h3=> ?_)
    have hn:=h3
    refine rdQ_mk 1 _ (rdQ_mk 2 _ (opQ_mk (xdel Tryz.kl138 0 99 hk ⟨_,_,rfl⟩) (⟨_,rfl⟩) fun x5 h4=> ?_))
    have hd:=h4
    refine ⟨⟨(),trivial,congrArg Value.bool h2⟩,fun _=>fun _=> ?_⟩
    have hi:(mget m (Value.agg #[.int .u8 k0, .int .u8 k1])).isSome=true:=by rw [←hx.2.1];assumption
    exact ⟨(_,_,true),⟨hi.symm,hd,by rw [if_pos hi];exact hn⟩,rfl,rfl,rfl,rfl,trivial⟩
  refine ⟨⟨(),trivial,congrArg Value.bool h2⟩,fun _=>fun _=> ?_⟩
  have hi:(mget m (Value.agg #[.int .u8 k0, .int .u8 k1])).isSome=false:=by rw [←hx.2.1];assumption
  exact ⟨(m,L,false),⟨hi.symm,(mdel_none (by simpa using hi)).symm,by rw [if_neg (by rw [hi];decide)]⟩,rfl,rfl,rfl,rfl,trivial⟩
def stage_Drop138_C:List Value->List Slot->Ctr:=fun vs hs=>⟨KV×List Ent×Bool,fun zx=> .bool zx.2.2,fun zx=> [(mS Tryz.mk138 (vblk (varg vs 1)) (snum (sarg hs 0) 1) zx.1),(jS Tryz.jk (snum (sarg hs 0) 1) zx.2.1)],fun zx=>zx.2.2=(mget (skv (sarg hs 0)) (varg vs 2)).isSome/\zx.1=mdel (skv (sarg hs 0)) (varg vs 2)/\zx.2.1=if (mget (skv (sarg hs 0)) (varg vs 2)).isSome then (sents (sarg hs 1))++ [(Tryz.ent138 (vblk (varg vs 1)) (skv (sarg hs 0)) (varg vs 2))] else (sents (sarg hs 1))⟩
theorem stage_Drop138 (b bj:Nat) (m:KV) (L:List Ent) (k0 k1:Int) (hl:L.length<=1073741824):CallT Tryz.prog 81 #[.pointer (some ⟨b,0,none⟩), .agg #[.int .u8 k0, .int .u8 k1]] [(mS Tryz.mk138 b bj m),(jS Tryz.jk bj L)] (KV×List Ent×Bool) (fun zx=> .bool zx.2.2) (fun zx=> [(mS Tryz.mk138 b bj zx.1),(jS Tryz.jk bj zx.2.1)]) (fun zx=>(zx.2.2=(mget m (Value.agg #[.int .u8 k0, .int .u8 k1])).isSome/\zx.1=mdel m (Value.agg #[.int .u8 k0, .int .u8 k1])/\zx.2.1=if (mget m (Value.agg #[.int .u8 k0, .int .u8 k1])).isSome then L++ [(Tryz.ent138 b m (Value.agg #[.int .u8 k0, .int .u8 k1]))] else L)):=by
  refine mS_call (m' :=fun x:KV×List Ent×Bool=>x.1) (us:=fun x=> [(jS Tryz.jk bj x.2.1)]) (enterOK (c:=bodyOf Tryz.f81) Tryz.func81 (by kernel_rfl) (by kernel_rfl)) (fun r hk=> ?_) (fun x hx h=> ?_)
  · exact stage_Drop_raw138 b bj r m L k0 k1 hk hl
  · exact hx.2.1▸h.del _
noncomputable def Tryz.ent143 (b:Nat) (m:KV) (key:Value):Ent:=⟨88,b,key,mget m key,vI 0,4,29,101,5⟩
def Tryz.mk143:MK:=⟨143,Value.func (.func 21) #[] #[],fun v=> ∃n:Int,v= .int .u8 n,fun x=> ∃v,R4 v/\x=vI v⟩
theorem Tryz.kl143:KindL Tryz.prog Tryz.mk143 141 5 29 (vI 0) (V:=Int) vI R4:=⟨⟨by kernel_rfl,kl_int (by kernel_rfl),fun w=>by kernel_rfl⟩,fun _=>Iff.rfl,⟨0,R4_zero,rfl⟩⟩
abbrev stage_New_raw143_Q (bj:Nat) (zv:Value) (zs0:Slot) (zs1:Slot):Prop:= ∃zx:Nat×Nat,(True)/\zv=pp zx.1 0/\zs0= .blk zx.1 (.cells #[.map (some zx.2),pp bj 0, .func (.func 21) #[] #[]] 143 (0,0))/\zs1= .blk zx.2 (.map #[] 0)/\True
set_option maxRecDepth 100000 in
theorem stage_New_raw143_vc (bj:Nat):codeW Tryz.prog 10 none 2000 none (bodyOf Tryz.f49) (.reg [S0] (.reg [.sem [.nw 21],S0,S0,S0, .sem [.nw 20],S0] (.done)))
    (init #[pp bj 0, .func (.func 21) #[] #[]] []) (finW Tryz.prog Tryz.f49 [] [20,21] (X:=Nat×Nat) (fun zx=>pp zx.1 0) (fun zx=> [.blk zx.1 (.cells #[.map (some zx.2),pp bj 0, .func (.func 21) #[] #[]] 143 (0,0)), .blk zx.2 (.map #[] 0)]) (fun _=>True))=
    (∀b1:Nat,∀b2:Nat,stage_New_raw143_Q bj (pp b2 0) (Slot.blk b2 (.cells #[.map (some b1),pp bj 0, .func (.func 21) #[] #[]] 143 (0,0))) (Slot.blk b1 (.map #[] 0))):=by kernel_rfl
set_option maxRecDepth 100000 in
theorem stage_New_raw143 (bj:Nat) :CallT Tryz.prog 49 #[pp bj 0, .func (.func 21) #[] #[]] [] (Nat×Nat) (fun zx=>pp zx.1 0) (fun zx=> [.blk zx.1 (.cells #[.map (some zx.2),pp bj 0, .func (.func 21) #[] #[]] 143 (0,0)), .blk zx.2 (.map #[] 0)]) (fun _=>True):=by
  refine call_of (c:=bodyOf Tryz.f49) (n:=10) (fn:=Tryz.f49) Tryz.mixed Tryz.func49 (by kernel_rfl) (by kernel_rfl) (by kernel_rfl) 2000 _ [] [20,21] rfl rfl (Eq.mpr (stage_New_raw143_vc bj) ?_)
  intro b1
  intro b2
  exact ⟨(b2,b1),trivial,rfl,rfl,rfl,trivial⟩
def stage_New143_C:List Value->List Slot->Ctr:=fun vs hs=>⟨Nat,fun zx=>pp zx 0,fun zx=> [(mS Tryz.mk143 zx (vblk (varg vs 1)) ([]))],fun zx=>True⟩
theorem stage_New143 (bj:Nat) :CallT Tryz.prog 49 #[.pointer (some ⟨bj,0,none⟩), .func (.func 21) #[] #[]] [] Nat (fun zx=> .pointer (some ⟨zx,0,none⟩)) (fun zx=> [(mS Tryz.mk143 zx bj ([]))]) (fun zx=>(True)):=(stage_New_raw143 bj).exists fun x _=>⟨x.1,trivial,rfl,new_fold (K:=Tryz.mk143) x.1 x.2 bj⟩
abbrev stage_Get_raw143_Q (b bj r:Nat) (m:KV) (k:Int) (zv:Value) (zs0:Slot) (zs1:Slot):Prop:= ∃zx:Int×Bool,(zx.1=num ((mget m (Value.int .u8 k)).getD (vI 0))/\zx.2=(mget m (Value.int .u8 k)).isSome)/\zv= .tuple #[vI zx.1, .bool zx.2]/\zs0= .blk b (.cells #[.map (some r),pp bj 0, .func (.func 21) #[] #[]] 143 (0,0))/\zs1=(mo r m)/\True
set_option maxRecDepth 100000 in
theorem stage_Get_raw143_vc (b bj r:Nat) (m:KV) (k:Int):codeW Tryz.prog 19 none 2000 none (bodyOf Tryz.f73) (.reg [.sem [.nw 2],S0] (.reg [S0,S0,S0, .sem [.rd 0],S0, .specr [1] (F_look (V:=Int) vI R4 (vI 0)),S0,S0,S0, .sem [.nw 3], .sem (wrs 4 3),S0] (.reg [.sem (rds 4 3),S0, .sem (wrs 4 2),S0] (.done))))
    (init #[pp b 0, .int .u8 k] [.blk b (.cells #[.map (some r),pp bj 0, .func (.func 21) #[] #[]] 143 (0,0)),(mo r m)]) (finW Tryz.prog Tryz.f73 [.rd 2, .rd 2, .rd 2, .rd 2] [0,1] (X:=Int×Bool) (fun zx=> .tuple #[vI zx.1, .bool zx.2]) (fun zx=> [.blk b (.cells #[.map (some r),pp bj 0, .func (.func 21) #[] #[]] 143 (0,0)),(mo r m)]) (fun zx=>(zx.1=num ((mget m (Value.int .u8 k)).getD (vI 0))/\zx.2=(mget m (Value.int .u8 k)).isSome)))=
    (∀b1:Nat,rdQ 1 b (opQr Tryz.prog (vS (Instr.lookup 141 (.map (some r)) (.int .u8 k) true)) [(mo r m)] (Int×Bool) (fun zx=> .tuple #[vI zx.1, .bool zx.2]) (fun zx=>R4 zx.1/\zx.2=(mget m (Value.int .u8 k)).isSome/\vI zx.1=(mget m (Value.int .u8 k)).getD (vI 0)) (fun x2=> ∀b3:Nat,rdQ 4 b3 (rdQ 4 b3 (rdQ 4 b1 (rdQ 4 b1 (stage_Get_raw143_Q b bj r m k (Value.tuple #[vI x2.1, .bool x2.2]) (Slot.blk b (.cells #[.map (some r),pp bj 0, .func (.func 21) #[] #[]] 143 (0,0))) (mo r m)))))))):=by kernel_rfl
set_option maxRecDepth 100000 in
theorem stage_Get_raw143 (b bj r:Nat) (m:KV) (k:Int) (hk:KOK Tryz.mk143 m):CallT Tryz.prog 73 #[pp b 0, .int .u8 k] [.blk b (.cells #[.map (some r),pp bj 0, .func (.func 21) #[] #[]] 143 (0,0)),(mo r m)] (Int×Bool) (fun zx=> .tuple #[vI zx.1, .bool zx.2]) (fun zx=> [.blk b (.cells #[.map (some r),pp bj 0, .func (.func 21) #[] #[]] 143 (0,0)),(mo r m)]) (fun zx=>(zx.1=num ((mget m (Value.int .u8 k)).getD (vI 0))/\zx.2=(mget m (Value.int .u8 k)).isSome)):=by
  refine call_of (c:=bodyOf Tryz.f73) (n:=19) (fn:=Tryz.f73) Tryz.mixed Tryz.func73 (by kernel_rfl) (by kernel_rfl) (by kernel_rfl) 2000 _ [.rd 2, .rd 2, .rd 2, .rd 2] [0,1] rfl rfl (Eq.mpr (stage_Get_raw143_vc b bj r m k) ?_)
  intro b1
  refine rdQ_mk 1 _ (opQr_mk (xlook Tryz.kl143 hk ⟨_,rfl⟩) (wlook Tryz.kl143 hk _) fun x2 h1=> ?_)
  have hx:=h1
  intro b3
  exact rdQ_mk 4 _ (rdQ_mk 4 _ (rdQ_mk 4 _ (rdQ_mk 4 _ ⟨_,⟨by rw [←hx.2.2];exact (num_vI hx.1).symm,hx.2.1⟩,rfl,rfl,rfl,trivial⟩)))
def stage_Get143_C:List Value->List Slot->Ctr:=fun vs hs=>⟨Int×Bool,fun zx=> .tuple #[vI zx.1, .bool zx.2],fun _=>hs,fun zx=>zx.1=num ((mget (skv (sarg hs 0)) (varg vs 2)).getD (vI 0))/\zx.2=(mget (skv (sarg hs 0)) (varg vs 2)).isSome⟩
theorem stage_Get143 (b bj:Nat) (m:KV) (k:Int) :CallT Tryz.prog 73 #[.pointer (some ⟨b,0,none⟩), .int .u8 k] [(mS Tryz.mk143 b bj m)] (Int×Bool) (fun zx=> .tuple #[vI zx.1, .bool zx.2]) (fun zx=> [(mS Tryz.mk143 b bj m)]) (fun zx=>(zx.1=num ((mget m (Value.int .u8 k)).getD (vI 0))/\zx.2=(mget m (Value.int .u8 k)).isSome)):=by
  refine (mS_call (m' :=fun _=>m) (us:=fun _=> []) (enterOK (c:=bodyOf Tryz.f73) Tryz.func73 (by kernel_rfl) (by kernel_rfl)) (fun r hk=> ?_) (fun _ _ h=>h))
  exact stage_Get_raw143 b bj r m k hk
abbrev stage_note_raw143_Q (b bj r:Nat) (row:Rw) (m:KV) (k:Int) (zv:Value) (zs0:Slot) (zs1:Slot) (zs2:Slot) (zs3:Slot) (zs4:Slot) (zs5:Slot) (zs6:Slot) (zs7:Slot):Prop:= ∃zx:Row×N4×Int×Bool,(vals zx.1=vals row++ [(Tryz.ent143 b m (Value.int .u8 k)).fn zx.2.1]/\zx.2.2.2=(mget m (Value.int .u8 k)).isSome/\vI zx.2.2.1=(mget m (Value.int .u8 k)).getD (vI 0))/\zv= .tuple #[]/\zs0= .blk b (.cells #[.map (some r),pp bj 0, .func (.func 21) #[] #[]] 143 (0,0))/\zs1=(mo r m)/\zs2=bk bj #[sv zx.1] 63/\zs3=(ss 1 zx.1)/\zs4=bk zx.2.1.1 #[.bool zx.2.2.2] 4/\zs5=bk zx.2.1.2.1 (nC zx.2.2.1) 29/\zs6=bk zx.2.1.2.2.1 #[pp b 0] 101/\zs7=bk zx.2.1.2.2.2 #[.int .u8 k] 5/\True
set_option maxRecDepth 100000 in
theorem stage_note_raw143_vc (b bj r:Nat) (row:Rw) (m:KV) (k:Int):codeW Tryz.prog 31 none 2000 none (bodyOf Tryz.f80) (.reg [.sem [.nw 32], .sem [.nw 33]] (.reg [.sem [.rd 32],S0,S0, .sem [.rd 0], .sem [.rd 33], .specr [1] (F_look (V:=Int) vI R4 (vI 0)),S0,S0,S0, .sem [.nw 31], .sem [.nw 30], .sem (wrs 4 31), .sem [.wr 30]] (.reg [.sem [.rd 32],S0,S0, .sem [.rd 0], .sem [.rd 32],S0,S0, .sem [.rd 0],S0,S0, .sem [.rd 2],S0, .sem [.nw 4], .specw [3,4] [3,4] (F_app 1),S0,S0, .specw [2] [2] F_put] (.done))))
    (init #[pp b 0, .int .u8 k] [.blk b (.cells #[.map (some r),pp bj 0, .func (.func 21) #[] #[]] 143 (0,0)),(mo r m),bk bj #[sv row] 63,(ss 1 row)]) (finW Tryz.prog Tryz.f80 [] [0,1,2,3,30,31,32,33] (X:=Row×N4×Int×Bool) (fun zx=> .tuple #[]) (fun zx=> [.blk b (.cells #[.map (some r),pp bj 0, .func (.func 21) #[] #[]] 143 (0,0)),(mo r m),bk bj #[sv zx.1] 63,(ss 1 zx.1),bk zx.2.1.1 #[.bool zx.2.2.2] 4,bk zx.2.1.2.1 (nC zx.2.2.1) 29,bk zx.2.1.2.2.1 #[pp b 0] 101,bk zx.2.1.2.2.2 #[.int .u8 k] 5]) (fun zx=>(vals zx.1=vals row++ [(Tryz.ent143 b m (Value.int .u8 k)).fn zx.2.1]/\zx.2.2.2=(mget m (Value.int .u8 k)).isSome/\vI zx.2.2.1=(mget m (Value.int .u8 k)).getD (vI 0))))=
    (∀b1:Nat,∀b2:Nat,rdQ 1 b1 (rdQ 1 b (rdQ 1 b2 (opQr Tryz.prog (vS (Instr.lookup 141 (.map (some r)) (.int .u8 k) true)) [(mo r m)] (Int×Bool) (fun zx=> .tuple #[vI zx.1, .bool zx.2]) (fun zx=>R4 zx.1/\zx.2=(mget m (Value.int .u8 k)).isSome/\vI zx.1=(mget m (Value.int .u8 k)).getD (vI 0)) (fun x3=> ∀b4:Nat,∀b5:Nat,rdQ 4 b4 (rdQ 1 b5 (rdQ 1 b1 (rdQ 1 b (rdQ 1 b1 (rdQ 1 b (rdQ 1 bj (∀b6:Nat,opQ Tryz.prog (vS (Builtin.append_ #[61,61] 61 #[sv row, .slice (some ⟨b6,0,none⟩) 1 1])) [(ss 1 row), .blk b6 (.cells #[.func (.func 88) #[] #[pp b5 0,pp b4 0,pp b1 0,pp b2 0]] 1 (0,0))] Row (fun zx=>sv zx) (fun zx=> [(ss 1 zx), .blk b6 (.cells #[.func (.func 88) #[] #[pp b5 0,pp b4 0,pp b1 0,pp b2 0]] 1 (0,0))]) (fun zx=>vals zx=rvals (sv row) (ss 1 row)++ [Value.func (.func 88) #[] #[pp b5 0,pp b4 0,pp b1 0,pp b2 0]]) (fun x7=>opQ Tryz.prog (skS (Instr.storeAt 61 (pp bj 0) (sv x7))) [bk bj #[sv row] 63] Unit (fun _=> .tuple #[]) (fun _=> [bk bj #[sv x7] 63]) (fun _=>True) (fun _=>stage_note_raw143_Q b bj r row m k (Value.tuple #[]) (Slot.blk b (.cells #[.map (some r),pp bj 0, .func (.func 21) #[] #[]] 143 (0,0))) (mo r m) (bk bj #[sv x7] 63) (ss 1 x7) (bk b5 #[.bool x3.2] 4) (bk b4 (nC x3.1) 29) (bk b1 #[pp b 0] 101) (bk b2 #[.int .u8 k] 5))))))))))))))):=by kernel_rfl
set_option maxRecDepth 100000 in
theorem stage_note_raw143 (b bj r:Nat) (row:Rw) (m:KV) (k:Int) (hk:KOK Tryz.mk143 m) (hl:(vals row).length<=1073741824):CallT Tryz.prog 80 #[pp b 0, .int .u8 k] [.blk b (.cells #[.map (some r),pp bj 0, .func (.func 21) #[] #[]] 143 (0,0)),(mo r m),bk bj #[sv row] 63,(ss 1 row)] (Row×N4×Int×Bool) (fun zx=> .tuple #[]) (fun zx=> [.blk b (.cells #[.map (some r),pp bj 0, .func (.func 21) #[] #[]] 143 (0,0)),(mo r m),bk bj #[sv zx.1] 63,(ss 1 zx.1),bk zx.2.1.1 #[.bool zx.2.2.2] 4,bk zx.2.1.2.1 (nC zx.2.2.1) 29,bk zx.2.1.2.2.1 #[pp b 0] 101,bk zx.2.1.2.2.2 #[.int .u8 k] 5]) (fun zx=>(vals zx.1=vals row++ [(Tryz.ent143 b m (Value.int .u8 k)).fn zx.2.1]/\zx.2.2.2=(mget m (Value.int .u8 k)).isSome/\vI zx.2.2.1=(mget m (Value.int .u8 k)).getD (vI 0))):=by
  refine call_of (c:=bodyOf Tryz.f80) (n:=31) (fn:=Tryz.f80) Tryz.mixed Tryz.func80 (by kernel_rfl) (by kernel_rfl) (by kernel_rfl) 2000 _ [] [0,1,2,3,30,31,32,33] rfl rfl (Eq.mpr (stage_note_raw143_vc b bj r row m k) ?_)
  intro b1
  intro b2
  refine rdQ_mk 1 _ (rdQ_mk 1 _ (rdQ_mk 1 _ (opQr_mk (xlook Tryz.kl143 hk ⟨_,rfl⟩) (wlook Tryz.kl143 hk _) fun x3 h1=> ?_)))
  have hx:=h1
  intro b4
  intro b5
  refine rdQ_mk 4 _ (rdQ_mk 1 _ (rdQ_mk 1 _ (rdQ_mk 1 _ (rdQ_mk 1 _ (rdQ_mk 1 _ (rdQ_mk 1 _ (fun b6=>opQ_mk (xappendR Tryz.sl61 61 row (by rw [dg_len];omega) b6 1 (Value.func (.func 88) #[] #[pp b5 0,pp b4 0,pp b1 0,pp b2 0]) rfl) (wit_app _) fun x7 h2=> ?_)))))))
  rw [rvals_eq] at h2
  have ha:=h2
  exact opQ_mk (xputv (b:=bj) (cs:= #[sv row]) (ty:=63) (te:=61) (fun w=>by kernel_rfl) 0 (sv x7) (cells_sv _) (one_sv _) (by show 0<1;decide)) (⟨(),trivial⟩) fun _ _=>⟨(x7,(b5,b4,b1,b2),x3),⟨ha,hx.2.1,hx.2.2⟩,rfl,rfl,rfl,rfl,rfl,rfl,rfl,rfl,rfl,trivial⟩
def stage_note143_C:List Value->List Slot->Ctr:=fun vs hs=>⟨List Ent,fun zx=> .tuple #[],fun zx=> [.blk (vblk (varg vs 1)) (.cells #[.map (some (snum (sarg hs 1) 0)), .pointer (some ⟨(vblk (scell (sarg hs 0) 1)),0,none⟩), .func (.func 21) #[] #[]] 143 (0,0)),(mo (snum (sarg hs 1) 0) (skv (sarg hs 1))),(jS Tryz.jk (vblk (scell (sarg hs 0) 1)) zx)],fun zx=>zx=(sents (sarg hs 2))++ [(Tryz.ent143 (vblk (varg vs 1)) (skv (sarg hs 1)) (varg vs 2))]⟩
theorem stage_note143 (b bj r:Nat) (m:KV) (L:List Ent) (k:Int) (hk:KOK Tryz.mk143 m) (hl:L.length<=1073741824):CallT Tryz.prog 80 #[.pointer (some ⟨b,0,none⟩), .int .u8 k] [.blk b (.cells #[.map (some r), .pointer (some ⟨bj,0,none⟩), .func (.func 21) #[] #[]] 143 (0,0)),(mo r m),(jS Tryz.jk bj L)] (List Ent) (fun zx=> .tuple #[]) (fun zx=> [.blk b (.cells #[.map (some r), .pointer (some ⟨bj,0,none⟩), .func (.func 21) #[] #[]] 143 (0,0)),(mo r m),(jS Tryz.jk bj zx)]) (fun zx=>(zx=L++ [(Tryz.ent143 b m (Value.int .u8 k))])):=by
  have c:=jS_note (K:=Tryz.jk) (bj:=bj) (L:=L) (vv:=vI) (e:=(Tryz.ent143 b m (Value.int .u8 k))) (mk:=fun _=>default_ent) (enterOK (c:=bodyOf Tryz.f80) Tryz.func80 (by kernel_rfl) (by kernel_rfl)) rfl (fun row hr=>stage_note_raw143 b bj r row m k hk (by omega))
  exact c.exists fun _ _=>⟨_,rfl,rfl,Imp.refl _⟩
abbrev stage_Set_raw143_Q (b bj r:Nat) (m:KV) (L:List Ent) (k v:Int) (zv:Value) (zs0:Slot) (zs1:Slot) (zs2:Slot):Prop:= ∃zx:KV×List Ent,(zx.1=mset m (Value.int .u8 k) (vI v)/\zx.2=L++ [(Tryz.ent143 b m (Value.int .u8 k))])/\zv= .tuple #[]/\zs0= .blk b (.cells #[.map (some r),pp bj 0, .func (.func 21) #[] #[]] 143 (0,0))/\zs1=(mo r zx.1)/\zs2=(jS Tryz.jk bj zx.2)/\True
set_option maxRecDepth 100000 in
theorem stage_Set_raw143_vc (b bj r:Nat) (m:KV) (L:List Ent) (k v:Int):codeW Tryz.prog 15 none 2000 none (bodyOf Tryz.f55) (.reg [.sem [.nw 3]] (.reg [S0,S0, .callw [0,1,2] [0,1,2] stage_note143_C] (.reg [S0,S0,S0, .sem [.rd 0],S0, .sem (rds 4 3), .specw [1] [1] F_upd] (.done))))
    (init #[pp b 0, .int .u8 k,vI v] [.blk b (.cells #[.map (some r),pp bj 0, .func (.func 21) #[] #[]] 143 (0,0)),(mo r m),(jS Tryz.jk bj L)]) (finW Tryz.prog Tryz.f55 [] [0,1,2] (X:=KV×List Ent) (fun zx=> .tuple #[]) (fun zx=> [.blk b (.cells #[.map (some r),pp bj 0, .func (.func 21) #[] #[]] 143 (0,0)),(mo r zx.1),(jS Tryz.jk bj zx.2)]) (fun zx=>(zx.1=mset m (Value.int .u8 k) (vI v)/\zx.2=L++ [(Tryz.ent143 b m (Value.int .u8 k))])))=
    (∀b1:Nat,callQ Tryz.prog 80 #[pp b 0, .int .u8 k] [.blk b (.cells #[.map (some r),pp bj 0, .func (.func 21) #[] #[]] 143 (0,0)),(mo r m),(jS Tryz.jk bj L)] (List Ent) (fun zx=> .tuple #[]) (fun zx=> [.blk b (.cells #[.map (some r),pp bj 0, .func (.func 21) #[] #[]] 143 (0,0)),(mo r m),(jS Tryz.jk bj zx)]) (fun zx=>zx=L++ [(Tryz.ent143 b m (Value.int .u8 k))]) (fun x2=>rdQ 1 b (rdQ 4 b1 (opQ Tryz.prog (skS (Instr.mapUpdate 141 (.map (some r)) (.int .u8 k) (vI v))) [(mo r m)] KV (fun zx=> .tuple #[]) (fun zx=> [(mo r zx)]) (fun zx=>zx=mset m (Value.int .u8 k) (vI v)) (fun x3=>stage_Set_raw143_Q b bj r m L k v (Value.tuple #[]) (Slot.blk b (.cells #[.map (some r),pp bj 0, .func (.func 21) #[] #[]] 143 (0,0))) (mo r x3) (jS Tryz.jk bj x2)))))):=by kernel_rfl
set_option maxRecDepth 100000 in
theorem stage_Set_raw143 (b bj r:Nat) (m:KV) (L:List Ent) (k v:Int) (r_v:R4 v) (hk:KOK Tryz.mk143 m) (hl:L.length<=1073741824):CallT Tryz.prog 55 #[pp b 0, .int .u8 k,vI v] [.blk b (.cells #[.map (some r),pp bj 0, .func (.func 21) #[] #[]] 143 (0,0)),(mo r m),(jS Tryz.jk bj L)] (KV×List Ent) (fun zx=> .tuple #[]) (fun zx=> [.blk b (.cells #[.map (some r),pp bj 0, .func (.func 21) #[] #[]] 143 (0,0)),(mo r zx.1),(jS Tryz.jk bj zx.2)]) (fun zx=>(zx.1=mset m (Value.int .u8 k) (vI v)/\zx.2=L++ [(Tryz.ent143 b m (Value.int .u8 k))])):=by
  refine call_of (c:=bodyOf Tryz.f55) (n:=15) (fn:=Tryz.f55) Tryz.mixed Tryz.func55 (by kernel_rfl) (by kernel_rfl) (by kernel_rfl) 2000 _ [] [0,1,2] rfl rfl (Eq.mpr (stage_Set_raw143_vc b bj r m L k v) ?_)
  intro b1
  refine callQ_mk (stage_note143 b bj r m L k (hk) (hl)) (⟨_,rfl⟩) fun x2 h1=> ?_
  have hn:=h1
  refine rdQ_mk 1 _ (rdQ_mk 4 _ (opQ_mk (xupd Tryz.kl143 hk ⟨_,rfl⟩ (vI v)) (⟨_,rfl⟩) fun x3 h2=> ?_))
  have hs:=h2
  exact ⟨(_,_),⟨hs,hn⟩,rfl,rfl,rfl,rfl,trivial⟩
def stage_Set143_C:List Value->List Slot->Ctr:=fun vs hs=>⟨KV×List Ent,fun zx=> .tuple #[],fun zx=> [(mS Tryz.mk143 (vblk (varg vs 1)) (snum (sarg hs 0) 1) zx.1),(jS Tryz.jk (snum (sarg hs 0) 1) zx.2)],fun zx=>zx.1=mset (skv (sarg hs 0)) (varg vs 2) (varg vs 3)/\zx.2=(sents (sarg hs 1))++ [(Tryz.ent143 (vblk (varg vs 1)) (skv (sarg hs 0)) (varg vs 2))]⟩
theorem stage_Set143 (b bj:Nat) (m:KV) (L:List Ent) (k v:Int) (r_v:R4 v)  (hl:L.length<=1073741824):CallT Tryz.prog 55 #[.pointer (some ⟨b,0,none⟩), .int .u8 k,vI v] [(mS Tryz.mk143 b bj m),(jS Tryz.jk bj L)] (KV×List Ent) (fun zx=> .tuple #[]) (fun zx=> [(mS Tryz.mk143 b bj zx.1),(jS Tryz.jk bj zx.2)]) (fun zx=>(zx.1=mset m (Value.int .u8 k) (vI v)/\zx.2=L++ [(Tryz.ent143 b m (Value.int .u8 k))])):=by
  refine mS_call (m' :=fun x:KV×List Ent=>x.1) (us:=fun x=> [(jS Tryz.jk bj x.2)]) (enterOK (c:=bodyOf Tryz.f55) Tryz.func55 (by kernel_rfl) (by kernel_rfl)) (fun r hk=> ?_) (fun x hx h=> ?_)
  · exact (stage_Set_raw143 b bj r m L k v r_v hk hl)
  · exact hx.1▸h.set (⟨_,rfl⟩) (⟨_,r_v,rfl⟩)
noncomputable def Tryz.ent107 (b:Nat) (m:KV) (key:Value):Ent:=⟨77,b,key,mget m key, .int .u64 0,4,27,66,5⟩
def Tryz.mk107:MK:=⟨107,Value.func (.func 21) #[] #[],fun v=> ∃n:Int,v= .int .u8 n,fun x=> ∃v,(fun n=>(Lit.int .u64 n).wf=true) v/\x=(Value.int .u64) v⟩
theorem Tryz.kl107:KindL Tryz.prog Tryz.mk107 105 5 27 (.int .u64 0) (V:=Int) (Value.int .u64) (fun n=>(Lit.int .u64 n).wf=true):=⟨⟨by kernel_rfl,kl_int (by kernel_rfl),fun w=>by kernel_rfl⟩,fun _=>Iff.rfl,⟨0,rfl,rfl⟩⟩
abbrev stage_New_raw107_Q (bj:Nat) (zv:Value) (zs0:Slot) (zs1:Slot):Prop:= ∃zx:Nat×Nat,(True)/\zv=pp zx.1 0/\zs0= .blk zx.1 (.cells #[.map (some zx.2),pp bj 0, .func (.func 21) #[] #[]] 107 (0,0))/\zs1= .blk zx.2 (.map #[] 0)/\True
set_option maxRecDepth 100000 in
theorem stage_New_raw107_vc (bj:Nat):codeW Tryz.prog 10 none 2000 none (bodyOf Tryz.f20) (.reg [S0] (.reg [.sem [.nw 21],S0,S0,S0, .sem [.nw 20],S0] (.done)))
    (init #[pp bj 0, .func (.func 21) #[] #[]] []) (finW Tryz.prog Tryz.f20 [] [20,21] (X:=Nat×Nat) (fun zx=>pp zx.1 0) (fun zx=> [.blk zx.1 (.cells #[.map (some zx.2),pp bj 0, .func (.func 21) #[] #[]] 107 (0,0)), .blk zx.2 (.map #[] 0)]) (fun _=>True))=
    (∀b1:Nat,∀b2:Nat,stage_New_raw107_Q bj (pp b2 0) (Slot.blk b2 (.cells #[.map (some b1),pp bj 0, .func (.func 21) #[] #[]] 107 (0,0))) (Slot.blk b1 (.map #[] 0))):=by kernel_rfl
set_option maxRecDepth 100000 in
theorem stage_New_raw107 (bj:Nat) :CallT Tryz.prog 20 #[pp bj 0, .func (.func 21) #[] #[]] [] (Nat×Nat) (fun zx=>pp zx.1 0) (fun zx=> [.blk zx.1 (.cells #[.map (some zx.2),pp bj 0, .func (.func 21) #[] #[]] 107 (0,0)), .blk zx.2 (.map #[] 0)]) (fun _=>True):=by
  refine call_of (c:=bodyOf Tryz.f20) (n:=10) (fn:=Tryz.f20) Tryz.mixed Tryz.func20 (by kernel_rfl) (by kernel_rfl) (by kernel_rfl) 2000 _ [] [20,21] rfl rfl (Eq.mpr (stage_New_raw107_vc bj) ?_)
  intro b1
  intro b2
  exact ⟨(b2,b1),trivial,rfl,rfl,rfl,trivial⟩
def stage_New107_C:List Value->List Slot->Ctr:=fun vs hs=>⟨Nat,fun zx=>pp zx 0,fun zx=> [(mS Tryz.mk107 zx (vblk (varg vs 1)) ([]))],fun zx=>True⟩
theorem stage_New107 (bj:Nat) :CallT Tryz.prog 20 #[.pointer (some ⟨bj,0,none⟩), .func (.func 21) #[] #[]] [] Nat (fun zx=> .pointer (some ⟨zx,0,none⟩)) (fun zx=> [(mS Tryz.mk107 zx bj ([]))]) (fun zx=>(True)):=(stage_New_raw107 bj).exists fun x _=>⟨x.1,trivial,rfl,new_fold (K:=Tryz.mk107) x.1 x.2 bj⟩
abbrev stage_Get_raw107_Q (b bj r:Nat) (m:KV) (k:Int) (zv:Value) (zs0:Slot) (zs1:Slot):Prop:= ∃zx:Int×Bool,(zx.1=ci ((mget m (Value.int .u8 k)).getD (uu 0))/\zx.2=(mget m (Value.int .u8 k)).isSome)/\zv= .tuple #[uu zx.1, .bool zx.2]/\zs0= .blk b (.cells #[.map (some r),pp bj 0, .func (.func 21) #[] #[]] 107 (0,0))/\zs1=(mo r m)/\True
set_option maxRecDepth 100000 in
theorem stage_Get_raw107_vc (b bj r:Nat) (m:KV) (k:Int):codeW Tryz.prog 19 none 2000 none (bodyOf Tryz.f27) (.reg [S0,S0] (.reg [S0,S0,S0, .sem [.rd 0],S0, .specr [1] (F_look (V:=Int) (Value.int .u64) (fun n=>(Lit.int .u64 n).wf=true) (uu 0)),S0,S0,S0,S0,S0] (.reg [S0,S0,S0,S0] (.done))))
    (init #[pp b 0, .int .u8 k] [.blk b (.cells #[.map (some r),pp bj 0, .func (.func 21) #[] #[]] 107 (0,0)),(mo r m)]) (finW Tryz.prog Tryz.f27 [] [0,1] (X:=Int×Bool) (fun zx=> .tuple #[uu zx.1, .bool zx.2]) (fun zx=> [.blk b (.cells #[.map (some r),pp bj 0, .func (.func 21) #[] #[]] 107 (0,0)),(mo r m)]) (fun zx=>(zx.1=ci ((mget m (Value.int .u8 k)).getD (uu 0))/\zx.2=(mget m (Value.int .u8 k)).isSome)))=
    (rdQ 1 b (opQr Tryz.prog (vS (Instr.lookup 105 (.map (some r)) (.int .u8 k) true)) [(mo r m)] (Int×Bool) (fun zx=> .tuple #[uu zx.1, .bool zx.2]) (fun zx=>(fun n=>(Lit.int .u64 n).wf=true) zx.1/\zx.2=(mget m (Value.int .u8 k)).isSome/\(Value.int .u64) zx.1=(mget m (Value.int .u8 k)).getD (uu 0)) (fun x1=>stage_Get_raw107_Q b bj r m k (Value.tuple #[uu x1.1, .bool x1.2]) (Slot.blk b (.cells #[.map (some r),pp bj 0, .func (.func 21) #[] #[]] 107 (0,0))) (mo r m)))):=by kernel_rfl
set_option maxRecDepth 100000 in
theorem stage_Get_raw107 (b bj r:Nat) (m:KV) (k:Int) (hk:KOK Tryz.mk107 m):CallT Tryz.prog 27 #[pp b 0, .int .u8 k] [.blk b (.cells #[.map (some r),pp bj 0, .func (.func 21) #[] #[]] 107 (0,0)),(mo r m)] (Int×Bool) (fun zx=> .tuple #[uu zx.1, .bool zx.2]) (fun zx=> [.blk b (.cells #[.map (some r),pp bj 0, .func (.func 21) #[] #[]] 107 (0,0)),(mo r m)]) (fun zx=>(zx.1=ci ((mget m (Value.int .u8 k)).getD (uu 0))/\zx.2=(mget m (Value.int .u8 k)).isSome)):=by
  refine call_of (c:=bodyOf Tryz.f27) (n:=19) (fn:=Tryz.f27) Tryz.mixed Tryz.func27 (by kernel_rfl) (by kernel_rfl) (by kernel_rfl) 2000 _ [] [0,1] rfl rfl (Eq.mpr (stage_Get_raw107_vc b bj r m k) ?_)
  refine rdQ_mk 1 _ (opQr_mk (xlook Tryz.kl107 hk ⟨_,rfl⟩) (wlook Tryz.kl107 hk _) fun x1 h1=> ?_)
  have hx:=h1
  exact ⟨_,⟨by rw [←hx.2.2];rfl,hx.2.1⟩,rfl,rfl,rfl,trivial⟩
def stage_Get107_C:List Value->List Slot->Ctr:=fun vs hs=>⟨Int×Bool,fun zx=> .tuple #[uu zx.1, .bool zx.2],fun _=>hs,fun zx=>zx.1=ci ((mget (skv (sarg hs 0)) (varg vs 2)).getD (uu 0))/\zx.2=(mget (skv (sarg hs 0)) (varg vs 2)).isSome⟩
theorem stage_Get107 (b bj:Nat) (m:KV) (k:Int) :CallT Tryz.prog 27 #[.pointer (some ⟨b,0,none⟩), .int .u8 k] [(mS Tryz.mk107 b bj m)] (Int×Bool) (fun zx=> .tuple #[.int .u64 zx.1, .bool zx.2]) (fun zx=> [(mS Tryz.mk107 b bj m)]) (fun zx=>(zx.1=ci ((mget m (Value.int .u8 k)).getD (.int .u64 0))/\zx.2=(mget m (Value.int .u8 k)).isSome)):=by
  refine (mS_call (m' :=fun _=>m) (us:=fun _=> []) (enterOK (c:=bodyOf Tryz.f27) Tryz.func27 (by kernel_rfl) (by kernel_rfl)) (fun r hk=> ?_) (fun _ _ h=>h))
  exact stage_Get_raw107 b bj r m k hk
abbrev stage_note_raw107_Q (b bj r:Nat) (row:Rw) (m:KV) (k:Int) (zv:Value) (zs0:Slot) (zs1:Slot) (zs2:Slot) (zs3:Slot) (zs4:Slot) (zs5:Slot) (zs6:Slot) (zs7:Slot):Prop:= ∃zx:Row×N4×Int×Bool,(vals zx.1=vals row++ [(Tryz.ent107 b m (Value.int .u8 k)).fn zx.2.1]/\zx.2.2.2=(mget m (Value.int .u8 k)).isSome/\(Value.int .u64) zx.2.2.1=(mget m (Value.int .u8 k)).getD (uu 0))/\zv= .tuple #[]/\zs0= .blk b (.cells #[.map (some r),pp bj 0, .func (.func 21) #[] #[]] 107 (0,0))/\zs1=(mo r m)/\zs2=bk bj #[sv zx.1] 63/\zs3=(ss 1 zx.1)/\zs4=bk zx.2.1.1 #[.bool zx.2.2.2] 4/\zs5=bk zx.2.1.2.1 #[uu zx.2.2.1] 27/\zs6=bk zx.2.1.2.2.1 #[pp b 0] 66/\zs7=bk zx.2.1.2.2.2 #[.int .u8 k] 5/\True
set_option maxRecDepth 100000 in
theorem stage_note_raw107_vc (b bj r:Nat) (row:Rw) (m:KV) (k:Int):codeW Tryz.prog 31 none 2000 none (bodyOf Tryz.f52) (.reg [.sem [.nw 32], .sem [.nw 33]] (.reg [.sem [.rd 32],S0,S0, .sem [.rd 0], .sem [.rd 33], .specr [1] (F_look (V:=Int) (Value.int .u64) (fun n=>(Lit.int .u64 n).wf=true) (uu 0)),S0,S0,S0, .sem [.nw 31], .sem [.nw 30], .sem [.wr 31], .sem [.wr 30]] (.reg [.sem [.rd 32],S0,S0, .sem [.rd 0], .sem [.rd 32],S0,S0, .sem [.rd 0],S0,S0, .sem [.rd 2],S0, .sem [.nw 4], .specw [3,4] [3,4] (F_app 1),S0,S0, .specw [2] [2] F_put] (.done))))
    (init #[pp b 0, .int .u8 k] [.blk b (.cells #[.map (some r),pp bj 0, .func (.func 21) #[] #[]] 107 (0,0)),(mo r m),bk bj #[sv row] 63,(ss 1 row)]) (finW Tryz.prog Tryz.f52 [] [0,1,2,3,30,31,32,33] (X:=Row×N4×Int×Bool) (fun zx=> .tuple #[]) (fun zx=> [.blk b (.cells #[.map (some r),pp bj 0, .func (.func 21) #[] #[]] 107 (0,0)),(mo r m),bk bj #[sv zx.1] 63,(ss 1 zx.1),bk zx.2.1.1 #[.bool zx.2.2.2] 4,bk zx.2.1.2.1 #[uu zx.2.2.1] 27,bk zx.2.1.2.2.1 #[pp b 0] 66,bk zx.2.1.2.2.2 #[.int .u8 k] 5]) (fun zx=>(vals zx.1=vals row++ [(Tryz.ent107 b m (Value.int .u8 k)).fn zx.2.1]/\zx.2.2.2=(mget m (Value.int .u8 k)).isSome/\(Value.int .u64) zx.2.2.1=(mget m (Value.int .u8 k)).getD (uu 0))))=
    (∀b1:Nat,∀b2:Nat,rdQ 1 b1 (rdQ 1 b (rdQ 1 b2 (opQr Tryz.prog (vS (Instr.lookup 105 (.map (some r)) (.int .u8 k) true)) [(mo r m)] (Int×Bool) (fun zx=> .tuple #[uu zx.1, .bool zx.2]) (fun zx=>(fun n=>(Lit.int .u64 n).wf=true) zx.1/\zx.2=(mget m (Value.int .u8 k)).isSome/\(Value.int .u64) zx.1=(mget m (Value.int .u8 k)).getD (uu 0)) (fun x3=> ∀b4:Nat,∀b5:Nat,rdQ 1 b4 (rdQ 1 b5 (rdQ 1 b1 (rdQ 1 b (rdQ 1 b1 (rdQ 1 b (rdQ 1 bj (∀b6:Nat,opQ Tryz.prog (vS (Builtin.append_ #[61,61] 61 #[sv row, .slice (some ⟨b6,0,none⟩) 1 1])) [(ss 1 row), .blk b6 (.cells #[.func (.func 77) #[] #[pp b5 0,pp b4 0,pp b1 0,pp b2 0]] 1 (0,0))] Row (fun zx=>sv zx) (fun zx=> [(ss 1 zx), .blk b6 (.cells #[.func (.func 77) #[] #[pp b5 0,pp b4 0,pp b1 0,pp b2 0]] 1 (0,0))]) (fun zx=>vals zx=rvals (sv row) (ss 1 row)++ [Value.func (.func 77) #[] #[pp b5 0,pp b4 0,pp b1 0,pp b2 0]]) (fun x7=>opQ Tryz.prog (skS (Instr.storeAt 61 (pp bj 0) (sv x7))) [bk bj #[sv row] 63] Unit (fun _=> .tuple #[]) (fun _=> [bk bj #[sv x7] 63]) (fun _=>True) (fun _=>stage_note_raw107_Q b bj r row m k (Value.tuple #[]) (Slot.blk b (.cells #[.map (some r),pp bj 0, .func (.func 21) #[] #[]] 107 (0,0))) (mo r m) (bk bj #[sv x7] 63) (ss 1 x7) (bk b5 #[.bool x3.2] 4) (bk b4 #[uu x3.1] 27) (bk b1 #[pp b 0] 66) (bk b2 #[.int .u8 k] 5))))))))))))))):=by kernel_rfl
set_option maxRecDepth 100000 in
theorem stage_note_raw107 (b bj r:Nat) (row:Rw) (m:KV) (k:Int) (hk:KOK Tryz.mk107 m) (hl:(vals row).length<=1073741824):CallT Tryz.prog 52 #[pp b 0, .int .u8 k] [.blk b (.cells #[.map (some r),pp bj 0, .func (.func 21) #[] #[]] 107 (0,0)),(mo r m),bk bj #[sv row] 63,(ss 1 row)] (Row×N4×Int×Bool) (fun zx=> .tuple #[]) (fun zx=> [.blk b (.cells #[.map (some r),pp bj 0, .func (.func 21) #[] #[]] 107 (0,0)),(mo r m),bk bj #[sv zx.1] 63,(ss 1 zx.1),bk zx.2.1.1 #[.bool zx.2.2.2] 4,bk zx.2.1.2.1 #[uu zx.2.2.1] 27,bk zx.2.1.2.2.1 #[pp b 0] 66,bk zx.2.1.2.2.2 #[.int .u8 k] 5]) (fun zx=>(vals zx.1=vals row++ [(Tryz.ent107 b m (Value.int .u8 k)).fn zx.2.1]/\zx.2.2.2=(mget m (Value.int .u8 k)).isSome/\(Value.int .u64) zx.2.2.1=(mget m (Value.int .u8 k)).getD (uu 0))):=by
  refine call_of (c:=bodyOf Tryz.f52) (n:=31) (fn:=Tryz.f52) Tryz.mixed Tryz.func52 (by kernel_rfl) (by kernel_rfl) (by kernel_rfl) 2000 _ [] [0,1,2,3,30,31,32,33] rfl rfl (Eq.mpr (stage_note_raw107_vc b bj r row m k) ?_)
  intro b1
  intro b2
  refine rdQ_mk 1 _ (rdQ_mk 1 _ (rdQ_mk 1 _ (opQr_mk (xlook Tryz.kl107 hk ⟨_,rfl⟩) (wlook Tryz.kl107 hk _) fun x3 h1=> ?_)))
  have hx:=h1
  intro b4
  intro b5
  refine rdQ_mk 1 _ (rdQ_mk 1 _ (rdQ_mk 1 _ (rdQ_mk 1 _ (rdQ_mk 1 _ (rdQ_mk 1 _ (rdQ_mk 1 _ (fun b6=>opQ_mk (xappendR Tryz.sl61 61 row (by rw [dg_len];omega) b6 1 (Value.func (.func 77) #[] #[pp b5 0,pp b4 0,pp b1 0,pp b2 0]) rfl) (wit_app _) fun x7 h2=> ?_)))))))
  rw [rvals_eq] at h2
  have ha:=h2
  exact opQ_mk (xputv (b:=bj) (cs:= #[sv row]) (ty:=63) (te:=61) (fun w=>by kernel_rfl) 0 (sv x7) (cells_sv _) (one_sv _) (by show 0<1;decide)) (⟨(),trivial⟩) fun _ _=>⟨(x7,(b5,b4,b1,b2),x3),⟨ha,hx.2.1,hx.2.2⟩,rfl,rfl,rfl,rfl,rfl,rfl,rfl,rfl,rfl,trivial⟩
def stage_note107_C:List Value->List Slot->Ctr:=fun vs hs=>⟨List Ent,fun zx=> .tuple #[],fun zx=> [.blk (vblk (varg vs 1)) (.cells #[.map (some (snum (sarg hs 1) 0)), .pointer (some ⟨(vblk (scell (sarg hs 0) 1)),0,none⟩), .func (.func 21) #[] #[]] 107 (0,0)),(mo (snum (sarg hs 1) 0) (skv (sarg hs 1))),(jS Tryz.jk (vblk (scell (sarg hs 0) 1)) zx)],fun zx=>zx=(sents (sarg hs 2))++ [(Tryz.ent107 (vblk (varg vs 1)) (skv (sarg hs 1)) (varg vs 2))]⟩
theorem stage_note107 (b bj r:Nat) (m:KV) (L:List Ent) (k:Int) (hk:KOK Tryz.mk107 m) (hl:L.length<=1073741824):CallT Tryz.prog 52 #[.pointer (some ⟨b,0,none⟩), .int .u8 k] [.blk b (.cells #[.map (some r), .pointer (some ⟨bj,0,none⟩), .func (.func 21) #[] #[]] 107 (0,0)),(mo r m),(jS Tryz.jk bj L)] (List Ent) (fun zx=> .tuple #[]) (fun zx=> [.blk b (.cells #[.map (some r), .pointer (some ⟨bj,0,none⟩), .func (.func 21) #[] #[]] 107 (0,0)),(mo r m),(jS Tryz.jk bj zx)]) (fun zx=>(zx=L++ [(Tryz.ent107 b m (Value.int .u8 k))])):=by
  have c:=jS_note (K:=Tryz.jk) (bj:=bj) (L:=L) (vv:=Value.int .u64) (e:=(Tryz.ent107 b m (Value.int .u8 k))) (mk:=fun _=>default_ent) (enterOK (c:=bodyOf Tryz.f52) Tryz.func52 (by kernel_rfl) (by kernel_rfl)) rfl (fun row hr=>stage_note_raw107 b bj r row m k hk (by omega))
  exact c.exists fun _ _=>⟨_,rfl,rfl,Imp.refl _⟩
abbrev stage_Set_raw107_Q (b bj r:Nat) (m:KV) (L:List Ent) (k v:Int) (zv:Value) (zs0:Slot) (zs1:Slot) (zs2:Slot):Prop:= ∃zx:KV×List Ent,(zx.1=mset m (Value.int .u8 k) (uu v)/\zx.2=L++ [(Tryz.ent107 b m (Value.int .u8 k))])/\zv= .tuple #[]/\zs0= .blk b (.cells #[.map (some r),pp bj 0, .func (.func 21) #[] #[]] 107 (0,0))/\zs1=(mo r zx.1)/\zs2=(jS Tryz.jk bj zx.2)/\True
set_option maxRecDepth 100000 in
theorem stage_Set_raw107_vc (b bj r:Nat) (m:KV) (L:List Ent) (k v:Int):codeW Tryz.prog 15 none 2000 none (bodyOf Tryz.f25) (.reg [S0,S0, .callw [0,1,2] [0,1,2] stage_note107_C] (.reg [S0,S0,S0, .sem [.rd 0],S0,S0, .specw [1] [1] F_upd] (.done)))
    (init #[pp b 0, .int .u8 k,uu v] [.blk b (.cells #[.map (some r),pp bj 0, .func (.func 21) #[] #[]] 107 (0,0)),(mo r m),(jS Tryz.jk bj L)]) (finW Tryz.prog Tryz.f25 [] [0,1,2] (X:=KV×List Ent) (fun zx=> .tuple #[]) (fun zx=> [.blk b (.cells #[.map (some r),pp bj 0, .func (.func 21) #[] #[]] 107 (0,0)),(mo r zx.1),(jS Tryz.jk bj zx.2)]) (fun zx=>(zx.1=mset m (Value.int .u8 k) (uu v)/\zx.2=L++ [(Tryz.ent107 b m (Value.int .u8 k))])))=
    (callQ Tryz.prog 52 #[pp b 0, .int .u8 k] [.blk b (.cells #[.map (some r),pp bj 0, .func (.func 21) #[] #[]] 107 (0,0)),(mo r m),(jS Tryz.jk bj L)] (List Ent) (fun zx=> .tuple #[]) (fun zx=> [.blk b (.cells #[.map (some r),pp bj 0, .func (.func 21) #[] #[]] 107 (0,0)),(mo r m),(jS Tryz.jk bj zx)]) (fun zx=>zx=L++ [(Tryz.ent107 b m (Value.int .u8 k))]) (fun x1=>rdQ 1 b (opQ Tryz.prog (skS (Instr.mapUpdate 105 (.map (some r)) (.int .u8 k) (uu v))) [(mo r m)] KV (fun zx=> .tuple #[]) (fun zx=> [(mo r zx)]) (fun zx=>zx=mset m (Value.int .u8 k) (uu v)) (fun x2=>stage_Set_raw107_Q b bj r m L k v (Value.tuple #[]) (Slot.blk b (.cells #[.map (some r),pp bj 0, .func (.func 21) #[] #[]] 107 (0,0))) (mo r x2) (jS Tryz.jk bj x1))))):=by kernel_rfl
set_option maxRecDepth 100000 in
theorem stage_Set_raw107 (b bj r:Nat) (m:KV) (L:List Ent) (k v:Int) (hk:KOK Tryz.mk107 m) (hl:L.length<=1073741824):CallT Tryz.prog 25 #[pp b 0, .int .u8 k,uu v] [.blk b (.cells #[.map (some r),pp bj 0, .func (.func 21) #[] #[]] 107 (0,0)),(mo r m),(jS Tryz.jk bj L)] (KV×List Ent) (fun zx=> .tuple #[]) (fun zx=> [.blk b (.cells #[.map (some r),pp bj 0, .func (.func 21) #[] #[]] 107 (0,0)),(mo r zx.1),(jS Tryz.jk bj zx.2)]) (fun zx=>(zx.1=mset m (Value.int .u8 k) (uu v)/\zx.2=L++ [(Tryz.ent107 b m (Value.int .u8 k))])):=by
  refine call_of (c:=bodyOf Tryz.f25) (n:=15) (fn:=Tryz.f25) Tryz.mixed Tryz.func25 (by kernel_rfl) (by kernel_rfl) (by kernel_rfl) 2000 _ [] [0,1,2] rfl rfl (Eq.mpr (stage_Set_raw107_vc b bj r m L k v) ?_)
  refine callQ_mk (stage_note107 b bj r m L k (hk) (hl)) (⟨_,rfl⟩) fun x1 h1=> ?_
  have hn:=h1
  refine rdQ_mk 1 _ (opQ_mk (xupd Tryz.kl107 hk ⟨_,rfl⟩ (Value.int .u64 v)) (⟨_,rfl⟩) fun x2 h2=> ?_)
  have hs:=h2
  exact ⟨(_,_),⟨hs,hn⟩,rfl,rfl,rfl,rfl,trivial⟩
def stage_Set107_C:List Value->List Slot->Ctr:=fun vs hs=>⟨KV×List Ent,fun zx=> .tuple #[],fun zx=> [(mS Tryz.mk107 (vblk (varg vs 1)) (snum (sarg hs 0) 1) zx.1),(jS Tryz.jk (snum (sarg hs 0) 1) zx.2)],fun zx=>zx.1=mset (skv (sarg hs 0)) (varg vs 2) (varg vs 3)/\zx.2=(sents (sarg hs 1))++ [(Tryz.ent107 (vblk (varg vs 1)) (skv (sarg hs 0)) (varg vs 2))]⟩
theorem stage_Set107 (b bj:Nat) (m:KV) (L:List Ent) (k v:Int) (hv:(Lit.int .u64 v).wf=true) (hl:L.length<=1073741824):CallT Tryz.prog 25 #[.pointer (some ⟨b,0,none⟩), .int .u8 k, .int .u64 v] [(mS Tryz.mk107 b bj m),(jS Tryz.jk bj L)] (KV×List Ent) (fun zx=> .tuple #[]) (fun zx=> [(mS Tryz.mk107 b bj zx.1),(jS Tryz.jk bj zx.2)]) (fun zx=>(zx.1=mset m (Value.int .u8 k) (Value.int .u64 v)/\zx.2=L++ [(Tryz.ent107 b m (Value.int .u8 k))])):=by
  refine mS_call (m' :=fun x:KV×List Ent=>x.1) (us:=fun x=> [(jS Tryz.jk bj x.2)]) (enterOK (c:=bodyOf Tryz.f25) Tryz.func25 (by kernel_rfl) (by kernel_rfl)) (fun r hk=> ?_) (fun x hx h=> ?_)
  · exact (stage_Set_raw107 b bj r m L k v hk hl)
  · exact hx.1▸h.set (⟨_,rfl⟩) (⟨_,hv,rfl⟩)
theorem Tryz.numk138:NumK Tryz.mk138:=fun _=>Iff.rfl
theorem Tryz.numk143:NumK Tryz.mk143:=fun _=>Iff.rfl
def book_New_C:List Value->List Slot->Ctr:=fun vs hs=>⟨Nat×Nat×Nat,fun zx=>pp zx.1 0,fun zx=> [bk zx.1 #[pp zx.2.1 0,pp zx.2.2 0] 104,(mS Tryz.mk138 zx.2.1 (vblk (varg vs 1)) ([])),(mS Tryz.mk143 zx.2.2 (vblk (varg vs 1)) ([]))],fun zx=>True⟩
abbrev book_New_Q (bj:Nat) (zv:Value) (zs0:Slot) (zs1:Slot) (zs2:Slot):Prop:= ∃zx:Nat×Nat×Nat,(True)/\zv=pp zx.1 0/\zs0=bk zx.1 #[pp zx.2.1 0,pp zx.2.2 0] 104/\zs1=(mS Tryz.mk138 zx.2.1 bj ([]))/\zs2=(mS Tryz.mk143 zx.2.2 bj ([]))/\True
abbrev book_New_A (bj:Nat) (zF:SF (Nat×Nat×Nat)):Prop:=zF #[pp bj 0] [] (fun zx=>pp zx.1 0) (fun zx=> [bk zx.1 #[pp zx.2.1 0,pp zx.2.2 0] 104,(mS Tryz.mk138 zx.2.1 bj ([])),(mS Tryz.mk143 zx.2.2 bj ([]))]) (fun zx=>(True))
set_option maxRecDepth 100000 in
theorem book_New_vc (bj:Nat):book_New_A bj (fun za zh zv zu zp=>codeW Tryz.prog 9 none 2000 none (bodyOf Tryz.f19) (.reg [S0] (.reg [S0, .callw [] [21] stage_New138_C,S0, .callw [] [22] stage_New143_C,S0, .sem [.nw 20],S0] (.done)))
    (init za zh) (finW Tryz.prog Tryz.f19 [] [20,21,22] (X:=Nat×Nat×Nat) zv zu zp))=
    (callQ Tryz.prog 47 #[pp bj 0, .func (.func 48) #[] #[]] [] Nat (fun zx=>pp zx 0) (fun zx=> [(mS Tryz.mk138 zx bj ([]))]) (fun zx=>True) (fun x1=>callQ Tryz.prog 49 #[pp bj 0, .func (.func 21) #[] #[]] [] Nat (fun zx=>pp zx 0) (fun zx=> [(mS Tryz.mk143 zx bj ([]))]) (fun zx=>True) (fun x2=> ∀b3:Nat,book_New_Q bj (pp b3 0) (bk b3 #[pp x1 0,pp x2 0] 104) (mS Tryz.mk138 x1 bj ([])) (mS Tryz.mk143 x2 bj ([]))))):=by kernel_rfl
set_option maxRecDepth 100000 in
theorem book_New (bj:Nat) :book_New_A bj (fun za zh zv zu zp=>CallT Tryz.prog 19 za zh (Nat×Nat×Nat) zv zu zp):=by
  refine call_of (c:=bodyOf Tryz.f19) (n:=9) (fn:=Tryz.f19) Tryz.mixed Tryz.func19 (by kernel_rfl) (by kernel_rfl) (by kernel_rfl) 2000 _ [] [20,21,22] rfl rfl (Eq.mpr (book_New_vc bj) ?_)
  exact callQ_mk (stage_New138 bj) (⟨0,trivial⟩) fun x1 h1=>callQ_mk (stage_New143 bj) (⟨0,trivial⟩) fun x2 h2=>fun b3=>⟨(b3,x1,x2),trivial,rfl,rfl,rfl,rfl,trivial⟩
abbrev book_New_K (bj:Nat) (KK:(Nat×Nat×Nat)->Prop):Prop:=book_New_A bj (fun za zh zv zu zp=>callQ Tryz.prog 19 za zh (Nat×Nat×Nat) zv zu zp KK)
theorem book_New_m (bj:Nat) {KK:(Nat×Nat×Nat)->Prop} (kont: ∀zx:Nat×Nat×Nat,(True)->KK zx) :book_New_K bj KK:=callQ_mk (book_New bj) (⟨(0,0,0),trivial⟩) fun zx hz=>by
  exact kont zx hz
def book_put_C:List Value->List Slot->Ctr:=fun vs hs=>⟨BS,fun zx=> .tuple #[],fun zx=> [.blk (vblk (varg vs 1)) (.cells #[.pointer (some ⟨(vblk (scell (sarg hs 0) 0)),0,none⟩), .pointer (some ⟨(vblk (scell (sarg hs 0) 1)),0,none⟩)] 104 (0,0)),(mS Tryz.mk138 (vblk (scell (sarg hs 0) 0)) (snum (sarg hs 1) 1) zx.1),(mS Tryz.mk143 (vblk (scell (sarg hs 0) 1)) (snum (sarg hs 1) 1) zx.2.1),(jS Tryz.jk (snum (sarg hs 1) 1) zx.2.2)],fun zx=>zx=bPut (Tryz.ent138 (vblk (scell (sarg hs 0) 0))) (((skv (sarg hs 1)),(skv (sarg hs 2)),(sents (sarg hs 3))):BS) (varg vs 2) (num (varg vs 3))⟩
abbrev book_put_Q (b bm bs bj:Nat) (mb ms:KV) (L:List Ent) (k0 k1 n:Int) (zv:Value) (zs0:Slot) (zs1:Slot) (zs2:Slot) (zs3:Slot):Prop:= ∃zx:BS,(zx=bPut (Tryz.ent138 bm) ((mb,ms,L):BS) (Value.agg #[.int .u8 k0, .int .u8 k1]) (num (vI n)))/\zv= .tuple #[]/\zs0=bk b #[pp bm 0,pp bs 0] 104/\zs1=(mS Tryz.mk138 bm bj zx.1)/\zs2=(mS Tryz.mk143 bs bj zx.2.1)/\zs3=(jS Tryz.jk bj zx.2.2)/\True
abbrev book_put_A (b bm bs bj:Nat) (mb ms:KV) (L:List Ent) (k0 k1 n:Int) (zF:SF BS):Prop:=zF #[pp b 0, .agg #[.int .u8 k0, .int .u8 k1],vI n] [bk b #[pp bm 0,pp bs 0] 104,(mS Tryz.mk138 bm bj mb),(mS Tryz.mk143 bs bj ms),(jS Tryz.jk bj L)] (fun zx=> .tuple #[]) (fun zx=> [bk b #[pp bm 0,pp bs 0] 104,(mS Tryz.mk138 bm bj zx.1),(mS Tryz.mk143 bs bj zx.2.1),(jS Tryz.jk bj zx.2.2)]) (fun zx=>(zx=bPut (Tryz.ent138 bm) ((mb,ms,L):BS) (Value.agg #[.int .u8 k0, .int .u8 k1]) (num (vI n))))
set_option maxRecDepth 100000 in
theorem book_put_vc (b bm bs bj:Nat) (mb ms:KV) (L:List Ent) (k0 k1 n:Int):book_put_A b bm bs bj mb ms L k0 k1 n (fun za zh zv zu zp=>codeW Tryz.prog 22 none 2000 none (bodyOf Tryz.f56) (.reg [.sem [.nw 4], .sem [.nw 5]] (.reg [.sem (rds 4 5),S0, .eq (f_eq)] (.cond (.reg [S0,S0,S0, .sem [.rd 0], .sem [.rd 4, .rd 4], .callw [1,3] [1,3] stage_Drop138_C] (.done)) (.reg [S0,S0,S0, .sem [.rd 0], .sem [.rd 4, .rd 4], .sem (rds 4 5), .callw [1,3] [1,3] stage_Set138_C] (.done)))))
    (init za zh) (finW Tryz.prog Tryz.f56 [] [0,1,2,3] (X:=BS) zv zu zp))=
    (∀b1:Nat,∀b2:Nat,rdQ 4 b2 ((PureRun Tryz.prog (xBin .eql 29 (vI n) (vI 0)) (.bool (num (vI n)==num (vI 0))))/\((num (vI n)==num (vI 0))=true->rdQ 1 b (rdQ 2 b1 (callQ Tryz.prog 81 #[pp bm 0, .agg #[.int .u8 k0, .int .u8 k1]] [(mS Tryz.mk138 bm bj mb),(jS Tryz.jk bj L)] (KV×List Ent×Bool) (fun zx=> .bool zx.2.2) (fun zx=> [(mS Tryz.mk138 bm bj zx.1),(jS Tryz.jk bj zx.2.1)]) (fun zx=>zx.2.2=(mget mb (Value.agg #[.int .u8 k0, .int .u8 k1])).isSome/\zx.1=mdel mb (Value.agg #[.int .u8 k0, .int .u8 k1])/\zx.2.1=if (mget mb (Value.agg #[.int .u8 k0, .int .u8 k1])).isSome then L++ [(Tryz.ent138 bm mb (Value.agg #[.int .u8 k0, .int .u8 k1]))] else L) (fun x3=>book_put_Q b bm bs bj mb ms L k0 k1 n (Value.tuple #[]) (bk b #[pp bm 0,pp bs 0] 104) (mS Tryz.mk138 bm bj x3.1) (mS Tryz.mk143 bs bj ms) (jS Tryz.jk bj x3.2.1)))))/\((num (vI n)==num (vI 0))=false->rdQ 1 b (rdQ 2 b1 (rdQ 4 b2 (callQ Tryz.prog 82 #[pp bm 0, .agg #[.int .u8 k0, .int .u8 k1],vI n] [(mS Tryz.mk138 bm bj mb),(jS Tryz.jk bj L)] (KV×List Ent) (fun zx=> .tuple #[]) (fun zx=> [(mS Tryz.mk138 bm bj zx.1),(jS Tryz.jk bj zx.2)]) (fun zx=>zx.1=mset mb (Value.agg #[.int .u8 k0, .int .u8 k1]) (vI n)/\zx.2=L++ [(Tryz.ent138 bm mb (Value.agg #[.int .u8 k0, .int .u8 k1]))]) (fun x4=>book_put_Q b bm bs bj mb ms L k0 k1 n (Value.tuple #[]) (bk b #[pp bm 0,pp bs 0] 104) (mS Tryz.mk138 bm bj x4.1) (mS Tryz.mk143 bs bj ms) (jS Tryz.jk bj x4.2)))))))):=by kernel_rfl
set_option maxRecDepth 100000 in
theorem book_put (b bm bs bj:Nat) (mb ms:KV) (L:List Ent) (k0 k1 n:Int) (r_n:R4 n) (hl:L.length<=2000000):book_put_A b bm bs bj mb ms L k0 k1 n (fun za zh zv zu zp=>CallT Tryz.prog 56 za zh BS zv zu zp):=by
  refine call_of (c:=bodyOf Tryz.f56) (n:=22) (fn:=Tryz.f56) Tryz.mixed Tryz.func56 (by kernel_rfl) (by kernel_rfl) (by kernel_rfl) 2000 _ [] [0,1,2,3] rfl rfl (Eq.mpr (book_put_vc b bm bs bj mb ms L k0 k1 n) ?_)
  intro b1
  intro b2
  refine rdQ_mk 4 _ ⟨Tryz.xeq29 n 0,⟨fun h1=> ?_,fun h1=> ?_⟩⟩
  · refine rdQ_mk 1 _ (rdQ_mk 2 _ (callQ_mk (stage_Drop138 bm bj mb L k0 k1 (by omega)) (⟨(_,_,_),rfl,rfl,rfl⟩) fun x3 h2=> ?_))
    have hd:=h2
    unfold book_put_Q
    have hz:n=0:=by
      have hq:=‹(num (vI n)==num (vI 0))=true›
      rw [num_vI r_n,num_vI R4_zero] at hq;exact beq_iff_eq.1 hq
    exact ⟨(x3.1,ms,x3.2.1),by rw [num_vI r_n];unfold bPut mput putL;rw [if_pos hz,if_pos hz,←hd.2.1,←hd.2.2],rfl,rfl,rfl,rfl,rfl,trivial⟩
  refine rdQ_mk 1 _ (rdQ_mk 2 _ (rdQ_mk 4 _ (callQ_mk (stage_Set138 bm bj mb L k0 k1 n (by assumption) (by omega)) (⟨(_,_),rfl,rfl⟩) fun x4 h3=> ?_)))
  try simp only [num_vI (n:=n) (by assumption)] at h3
  have hs:=h3
  unfold book_put_Q
  have hz: ¬n=0:=by
    have hq:=‹(num (vI n)==num (vI 0))=false›
    rw [num_vI r_n,num_vI R4_zero] at hq;exact beq_eq_false_iff_ne.1 hq
  exact ⟨(x4.1,ms,x4.2),by rw [num_vI r_n];unfold bPut mput putL;rw [if_neg hz,if_neg hz,←hs.1,←hs.2],rfl,rfl,rfl,rfl,rfl,trivial⟩
abbrev book_put_K (b bm bs bj:Nat) (mb ms:KV) (L:List Ent) (k0 k1 n:Int) (KK:BS->Prop):Prop:=book_put_A b bm bs bj mb ms L k0 k1 n (fun za zh zv zu zp=>callQ Tryz.prog 56 za zh BS zv zu zp KK)
theorem book_put_m (b bm bs bj:Nat) (mb ms:KV) (L:List Ent) (k0 k1 n:Int) {KK:BS->Prop} (kont: ∀zx:BS,(zx=bPut (Tryz.ent138 bm) ((mb,ms,L):BS) (Value.agg #[.int .u8 k0, .int .u8 k1]) n)->KK zx) (r_n:R4 n:=by assumption) (hl:L.length<=2000000:=by omega):book_put_K b bm bs bj mb ms L k0 k1 n KK:=callQ_mk (book_put b bm bs bj mb ms L k0 k1 n r_n hl) (⟨_,rfl⟩) fun zx hz=>by
  try simp only [num_vI (n:=n) r_n] at hz
  exact kont zx hz
def book_Balance_C:List Value->List Slot->Ctr:=fun vs hs=>⟨Int,fun zx=>vI zx,fun _=>hs,fun zx=>R4 zx/\zx=bal (skv (sarg hs 1)) (ci (varg vs 2)) (ci (varg vs 3))⟩
abbrev book_Balance_Q (b bm bs bj:Nat) (mb:KV) (t p:Int) (zv:Value) (zs0:Slot) (zs1:Slot):Prop:= ∃zx:Int,(R4 zx/\zx=bal mb t p)/\zv=vI zx/\zs0=bk b #[pp bm 0,pp bs 0] 104/\zs1=(mS Tryz.mk138 bm bj mb)/\True
abbrev book_Balance_A (b bm bs bj:Nat) (mb:KV) (t p:Int) (zF:SF Int):Prop:=zF #[pp b 0, .int .u8 t, .int .u8 p] [bk b #[pp bm 0,pp bs 0] 104,(mS Tryz.mk138 bm bj mb)] (fun zx=>vI zx) (fun zx=> [bk b #[pp bm 0,pp bs 0] 104,(mS Tryz.mk138 bm bj mb)]) (fun zx=>(R4 zx/\zx=bal mb t p))
set_option maxRecDepth 100000 in
theorem book_Balance_vc (b bm bs bj:Nat) (mb:KV) (t p:Int):book_Balance_A b bm bs bj mb t p (fun za zh zv zu zp=>codeW Tryz.prog 21 none 2000 none (bodyOf Tryz.f41) (.reg [.sem [.nw 2]] (.reg [S0,S0,S0, .sem [.rd 0],S0,S0,S0, .callr [1] stage_Get138_C,S0,S0,S0, .sem [.nw 3], .sem (wrs 4 3),S0] (.reg [.sem (rds 4 3), .sem (wrs 4 2)] (.done))))
    (init za zh) (finW Tryz.prog Tryz.f41 [.rd 2, .rd 2, .rd 2, .rd 2] [0,1] (X:=Int) zv zu zp))=
    (∀b1:Nat,rdQ 1 b (callQr Tryz.prog 70 #[pp bm 0, .agg #[.int .u8 t, .int .u8 p]] [(mS Tryz.mk138 bm bj mb)] (Int×Bool) (fun zx=> .tuple #[vI zx.1, .bool zx.2]) (fun zx=>zx.1=num ((mget mb (Value.agg #[.int .u8 t, .int .u8 p])).getD (vI 0))/\zx.2=(mget mb (Value.agg #[.int .u8 t, .int .u8 p])).isSome) (fun x2=> ∀b3:Nat,rdQ 4 b3 (rdQ 4 b3 (rdQ 4 b1 (rdQ 4 b1 (book_Balance_Q b bm bs bj mb t p (vI x2.1) (bk b #[pp bm 0,pp bs 0] 104) (mS Tryz.mk138 bm bj mb)))))))):=by kernel_rfl
set_option maxRecDepth 100000 in
theorem book_Balance (b bm bs bj:Nat) (mb:KV) (t p:Int) (hb:KOK Tryz.mk138 mb):book_Balance_A b bm bs bj mb t p (fun za zh zv zu zp=>CallT Tryz.prog 41 za zh Int zv zu zp):=by
  refine call_of (c:=bodyOf Tryz.f41) (n:=21) (fn:=Tryz.f41) Tryz.mixed Tryz.func41 (by kernel_rfl) (by kernel_rfl) (by kernel_rfl) 2000 _ [.rd 2, .rd 2, .rd 2, .rd 2] [0,1] rfl rfl (Eq.mpr (book_Balance_vc b bm bs bj mb t p) ?_)
  intro b1
  refine rdQ_mk 1 _ (callQr_mk (stage_Get138 bm bj mb t p) (⟨(_,_),rfl,rfl⟩) fun x2 h1=> ?_)
  have hg:=h1
  have r0:R4 x2.1:=by rw [hg.1];exact KOK.R4v Tryz.numk138 hb _
  intro b3
  exact rdQ_mk 4 _ (rdQ_mk 4 _ (rdQ_mk 4 _ (rdQ_mk 4 _ ⟨_,⟨r0,hg.1⟩,rfl,rfl,rfl,trivial⟩)))
abbrev book_Balance_K (b bm bs bj:Nat) (mb:KV) (t p:Int) (KK:Int->Prop):Prop:=book_Balance_A b bm bs bj mb t p (fun za zh zv zu zp=>callQr Tryz.prog 41 za zh Int zv zp KK)
theorem book_Balance_m (b bm bs bj:Nat) (mb:KV) (t p:Int) {KK:Int->Prop} (kont: ∀zx:Int,R4 zx->(zx=bal mb t p)->KK zx) (hb:KOK Tryz.mk138 mb:=by assumption):book_Balance_K b bm bs bj mb t p KK:=callQr_mk (book_Balance b bm bs bj mb t p hb) (⟨_,KOK.R4v Tryz.numk138 (by assumption) _,rfl⟩) fun zx hz=>by
  obtain ⟨rhz_,hz⟩:=hz
  exact kont zx rhz_ hz
def book_Supply_C:List Value->List Slot->Ctr:=fun vs hs=>⟨Int,fun zx=>vI zx,fun _=>hs,fun zx=>R4 zx/\zx=sup (skv (sarg hs 1)) (ci (varg vs 2))⟩
abbrev book_Supply_Q (b bm bs bj:Nat) (ms:KV) (t:Int) (zv:Value) (zs0:Slot) (zs1:Slot):Prop:= ∃zx:Int,(R4 zx/\zx=sup ms t)/\zv=vI zx/\zs0=bk b #[pp bm 0,pp bs 0] 104/\zs1=(mS Tryz.mk143 bs bj ms)/\True
abbrev book_Supply_A (b bm bs bj:Nat) (ms:KV) (t:Int) (zF:SF Int):Prop:=zF #[pp b 0, .int .u8 t] [bk b #[pp bm 0,pp bs 0] 104,(mS Tryz.mk143 bs bj ms)] (fun zx=>vI zx) (fun zx=> [bk b #[pp bm 0,pp bs 0] 104,(mS Tryz.mk143 bs bj ms)]) (fun zx=>(R4 zx/\zx=sup ms t))
set_option maxRecDepth 100000 in
theorem book_Supply_vc (b bm bs bj:Nat) (ms:KV) (t:Int):book_Supply_A b bm bs bj ms t (fun za zh zv zu zp=>codeW Tryz.prog 17 none 2000 none (bodyOf Tryz.f44) (.reg [.sem [.nw 2]] (.reg [S0,S0,S0, .sem [.rd 0],S0, .callr [1] stage_Get143_C,S0,S0,S0, .sem [.nw 3], .sem (wrs 4 3),S0] (.reg [.sem (rds 4 3), .sem (wrs 4 2)] (.done))))
    (init za zh) (finW Tryz.prog Tryz.f44 [.rd 2, .rd 2, .rd 2, .rd 2] [0,1] (X:=Int) zv zu zp))=
    (∀b1:Nat,rdQ 1 b (callQr Tryz.prog 73 #[pp bs 0, .int .u8 t] [(mS Tryz.mk143 bs bj ms)] (Int×Bool) (fun zx=> .tuple #[vI zx.1, .bool zx.2]) (fun zx=>zx.1=num ((mget ms (Value.int .u8 t)).getD (vI 0))/\zx.2=(mget ms (Value.int .u8 t)).isSome) (fun x2=> ∀b3:Nat,rdQ 4 b3 (rdQ 4 b3 (rdQ 4 b1 (rdQ 4 b1 (book_Supply_Q b bm bs bj ms t (vI x2.1) (bk b #[pp bm 0,pp bs 0] 104) (mS Tryz.mk143 bs bj ms)))))))):=by kernel_rfl
set_option maxRecDepth 100000 in
theorem book_Supply (b bm bs bj:Nat) (ms:KV) (t:Int) (hs:KOK Tryz.mk143 ms):book_Supply_A b bm bs bj ms t (fun za zh zv zu zp=>CallT Tryz.prog 44 za zh Int zv zu zp):=by
  refine call_of (c:=bodyOf Tryz.f44) (n:=17) (fn:=Tryz.f44) Tryz.mixed Tryz.func44 (by kernel_rfl) (by kernel_rfl) (by kernel_rfl) 2000 _ [.rd 2, .rd 2, .rd 2, .rd 2] [0,1] rfl rfl (Eq.mpr (book_Supply_vc b bm bs bj ms t) ?_)
  intro b1
  refine rdQ_mk 1 _ (callQr_mk (stage_Get143 bs bj ms t) (⟨(_,_),rfl,rfl⟩) fun x2 h1=> ?_)
  have hg:=h1
  have r0:R4 x2.1:=by rw [hg.1];exact KOK.R4v Tryz.numk143 hs _
  intro b3
  exact rdQ_mk 4 _ (rdQ_mk 4 _ (rdQ_mk 4 _ (rdQ_mk 4 _ ⟨_,⟨r0,hg.1⟩,rfl,rfl,rfl,trivial⟩)))
abbrev book_Supply_K (b bm bs bj:Nat) (ms:KV) (t:Int) (KK:Int->Prop):Prop:=book_Supply_A b bm bs bj ms t (fun za zh zv zu zp=>callQr Tryz.prog 44 za zh Int zv zp KK)
theorem book_Supply_m (b bm bs bj:Nat) (ms:KV) (t:Int) {KK:Int->Prop} (kont: ∀zx:Int,R4 zx->(zx=sup ms t)->KK zx) (hs:KOK Tryz.mk143 ms:=by assumption):book_Supply_K b bm bs bj ms t KK:=callQr_mk (book_Supply b bm bs bj ms t hs) (⟨_,KOK.R4v Tryz.numk143 (by assumption) _,rfl⟩) fun zx hz=>by
  obtain ⟨rhz_,hz⟩:=hz
  exact kont zx rhz_ hz
def book_wrong1_C:List Value->List Slot->Ctr:=fun vs hs=>⟨Int,fun zx=> .int .i64 zx,fun _=>hs,fun zx=>zx=bw1 (ci (varg vs 1)) (ci (scell (sarg hs 0) 0)) (num (varg vs 2))⟩
abbrev book_wrong1_Q (c:Nat) (t n p:Int) (zv:Value) (zs0:Slot):Prop:= ∃zx:Int,(zx=bw1 t p (num (vI n)))/\zv= .int .i64 zx/\zs0=bk c #[.int .u8 p] 5/\True
abbrev book_wrong1_A (c:Nat) (t n p:Int) (zF:SF Int):Prop:=zF #[.int .u8 t,vI n, .slice (some ⟨c,0,none⟩) 1 1] [bk c #[.int .u8 p] 5] (fun zx=> .int .i64 zx) (fun zx=> [bk c #[.int .u8 p] 5]) (fun zx=>(zx=bw1 t p (num (vI n))))
set_option maxRecDepth 100000 in
theorem book_wrong1_vc (c:Nat) (t n p:Int):book_wrong1_A c t n p (fun za zh zv zu zp=>codeW Tryz.prog 26 none 2000 none (bodyOf Tryz.f53) (.reg [.sem [.nw 1],S0] (.reg [S0,S0,S0] (.reg [S0] (.condT (.reg [S0, .sem [.rd 0],S0] (.caseP (fun s=>decide ((ci (s.fr 0))≥(4:Int))) (.reg [S0, .gen [] (Sx.one (.bool true)),S0, .no, .no, .no,S0] (.condT (.reg [S0] (.done)))) (.reg [S0, .gen [] (Sx.one (.bool false)),S0,S0, .gen [] (fun vs=>Sx.one (.int .i64 (ci (varg vs 0))) vs),S0,S0] (.cond (.reg [S0] (.done)) (.reg [S0,S0] (.reg [S0] (.condF (.reg [.sem (rds 4 1),S0, .eq (f_eq)] (.cond (.reg [S0] (.done)) (.reg [S0] (.done)))))))))))))))
    (init za zh) (finW Tryz.prog Tryz.f53 [] [0] (X:=Int) zv zu zp))=
    (∀b1:Nat,(true=true)/\rdQ 1 c (((decide (t≥(4:Int)))=true->(∃_:Unit,True/\Value.bool (decide (t≥(4:Int)))= .bool true)/\ ∀_:Unit,(True)->true= !false/\true= !false/\true= !false/\(true=true)/\book_wrong1_Q c t n p (Value.int .i64 1) (bk c #[.int .u8 p] 5))/\((decide (t≥(4:Int)))=false->(∃_:Unit,True/\Value.bool (decide (t≥(4:Int)))= .bool false)/\ ∀_:Unit,(True)->false=false/\false=false/\(∃_:Unit,True/\Value.int .i64 (IntKind.i64.wrap p)= .int .i64 p)/\ ∀_:Unit,(True)->false=false/\((decide (p≥(18:Int)))=true->book_wrong1_Q c t n p (Value.int .i64 1) (bk c #[.int .u8 p] 5))/\((decide (p≥(18:Int)))=false->(false=false)/\rdQ 4 b1 ((PureRun Tryz.prog (xBin .eql 29 (vI n) (vI 0)) (.bool (num (vI n)==num (vI 0))))/\((num (vI n)==num (vI 0))=true->book_wrong1_Q c t n p (Value.int .i64 3) (bk c #[.int .u8 p] 5))/\((num (vI n)==num (vI 0))=false->book_wrong1_Q c t n p (Value.int .i64 0) (bk c #[.int .u8 p] 5))))))):=by kernel_rfl
set_option maxRecDepth 100000 in
theorem book_wrong1 (c:Nat) (t n p:Int) (r_n:R4 n) (wp:(Lit.int .u8 p).wf=true):book_wrong1_A c t n p (fun za zh zv zu zp=>CallT Tryz.prog 53 za zh Int zv zu zp):=by
  refine call_of (c:=bodyOf Tryz.f53) (n:=26) (fn:=Tryz.f53) Tryz.mixed Tryz.func53 (by kernel_rfl) (by kernel_rfl) (by kernel_rfl) 2000 _ [] [0] rfl rfl (Eq.mpr (book_wrong1_vc c t n p) ?_)
  have wp' :=wf8' wp
  intro b1
  refine ⟨rfl,rdQ_mk 1 _ ⟨fun h1=> ?_,fun h1=> ?_⟩⟩
  · refine ⟨⟨(),trivial,congrArg Value.bool h1⟩,fun _=>fun _=>⟨rfl,rfl,rfl,⟨rfl,?_⟩⟩⟩
    unfold book_wrong1_Q
    have hs:bw1 t p n=1:=by
      try simp (disch:=first | assumption | exact R4_zero | exact R4_one) only [rdx] at *
      unfold bw1
      (repeat' split)<;>first | rfl | (exfalso;omega)
    exact ⟨_,by first | exact hs.symm | (rw [num_vI r_n];exact hs.symm),rfl,rfl,trivial⟩
  refine ⟨⟨(),trivial,congrArg Value.bool h1⟩,fun _=>fun _=>⟨rfl,rfl,⟨(),trivial,congrArg (Value.int .i64) (wrap_i64 _ (by omega) (by omega))⟩,fun _=>fun _=>⟨rfl,⟨fun h2=> ?_,fun h2=> ?_⟩⟩⟩⟩
  · unfold book_wrong1_Q
    have hs:bw1 t p n=1:=by
      try simp (disch:=first | assumption | exact R4_zero | exact R4_one) only [rdx] at *
      unfold bw1
      (repeat' split)<;>first | rfl | (exfalso;omega)
    exact ⟨_,by first | exact hs.symm | (rw [num_vI r_n];exact hs.symm),rfl,rfl,trivial⟩
  refine ⟨rfl,rdQ_mk 4 _ ⟨Tryz.xeq29 n 0,⟨fun h3=> ?_,fun h3=> ?_⟩⟩⟩
  · unfold book_wrong1_Q
    have hs:bw1 t p n=3:=by
      try simp (disch:=first | assumption | exact R4_zero | exact R4_one) only [rdx] at *
      unfold bw1
      (repeat' split)<;>first | rfl | (exfalso;omega)
    exact ⟨_,by first | exact hs.symm | (rw [num_vI r_n];exact hs.symm),rfl,rfl,trivial⟩
  unfold book_wrong1_Q
  have hs:bw1 t p n=0:=by
    try simp (disch:=first | assumption | exact R4_zero | exact R4_one) only [rdx] at *
    unfold bw1
    (repeat' split)<;>first | rfl | (exfalso;omega)
  exact ⟨_,by first | exact hs.symm | (rw [num_vI r_n];exact hs.symm),rfl,rfl,trivial⟩
abbrev book_wrong1_K (c:Nat) (t n p:Int) (KK:Int->Prop):Prop:=book_wrong1_A c t n p (fun za zh zv zu zp=>callQr Tryz.prog 53 za zh Int zv zp KK)
theorem book_wrong1_m (c:Nat) (t n p:Int) {KK:Int->Prop} (kont: ∀zx:Int,(zx=bw1 t p n)->KK zx) (r_n:R4 n:=by assumption) (wp:(Lit.int .u8 p).wf=true:=by first | assumption | decide):book_wrong1_K c t n p KK:=callQr_mk (book_wrong1 c t n p r_n wp) (⟨_,rfl⟩) fun zx hz=>by
  try simp only [num_vI (n:=n) r_n] at hz
  exact kont zx hz
def book_wrong2_C:List Value->List Slot->Ctr:=fun vs hs=>⟨Int,fun zx=> .int .i64 zx,fun _=>hs,fun zx=>zx=bw2 (ci (varg vs 1)) (ci (scell (sarg hs 0) 0)) (ci (scell (sarg hs 0) 1)) (num (varg vs 2))⟩
abbrev book_wrong2_Q (c:Nat) (t n p q:Int) (zv:Value) (zs0:Slot):Prop:= ∃zx:Int,(zx=bw2 t p q (num (vI n)))/\zv= .int .i64 zx/\zs0=bk c #[.int .u8 p, .int .u8 q] 5/\True
abbrev book_wrong2_A (c:Nat) (t n p q:Int) (zF:SF Int):Prop:=zF #[.int .u8 t,vI n, .slice (some ⟨c,0,none⟩) 2 2] [bk c #[.int .u8 p, .int .u8 q] 5] (fun zx=> .int .i64 zx) (fun zx=> [bk c #[.int .u8 p, .int .u8 q] 5]) (fun zx=>(zx=bw2 t p q (num (vI n))))
set_option maxRecDepth 100000 in
theorem book_wrong2_vc (c:Nat) (t n p q:Int):book_wrong2_A c t n p q (fun za zh zv zu zp=>codeW Tryz.prog 26 none 2000 none (bodyOf Tryz.f53) (.reg [.sem [.nw 1],S0] (.reg [S0,S0,S0] (.reg [S0] (.condT (.reg [S0, .sem [.rd 0],S0] (.caseP (fun s=>decide ((ci (s.fr 0))≥(4:Int))) (.reg [S0, .gen [] (Sx.one (.bool true)),S0, .no, .no, .no,S0] (.condT (.reg [S0] (.done)))) (.reg [S0, .gen [] (Sx.one (.bool false)),S0,S0, .gen [] (fun vs=>Sx.one (.int .i64 (ci (varg vs 0))) vs),S0,S0] (.cond (.reg [S0] (.done)) (.reg [S0,S0] (.reg [S0] (.condT (.reg [S0, .sem [.rd 0],S0] (.reg [S0, .gen [] (Sx.one (.bool false)),S0,S0, .gen [] (fun vs=>Sx.one (.int .i64 (ci (varg vs 0))) vs),S0,S0] (.cond (.reg [S0] (.done)) (.reg [S0,S0] (.reg [S0] (.condF (.reg [.sem (rds 4 1),S0, .eq (f_eq)] (.cond (.reg [S0] (.done)) (.reg [S0] (.done)))))))))))))))))))))
    (init za zh) (finW Tryz.prog Tryz.f53 [] [0] (X:=Int) zv zu zp))=
    (∀b1:Nat,(true=true)/\rdQ 1 c (((decide (t≥(4:Int)))=true->(∃_:Unit,True/\Value.bool (decide (t≥(4:Int)))= .bool true)/\ ∀_:Unit,(True)->true= !false/\true= !false/\true= !false/\(true=true)/\book_wrong2_Q c t n p q (Value.int .i64 1) (bk c #[.int .u8 p, .int .u8 q] 5))/\((decide (t≥(4:Int)))=false->(∃_:Unit,True/\Value.bool (decide (t≥(4:Int)))= .bool false)/\ ∀_:Unit,(True)->false=false/\false=false/\(∃_:Unit,True/\Value.int .i64 (IntKind.i64.wrap p)= .int .i64 p)/\ ∀_:Unit,(True)->false=false/\((decide (p≥(18:Int)))=true->book_wrong2_Q c t n p q (Value.int .i64 1) (bk c #[.int .u8 p, .int .u8 q] 5))/\((decide (p≥(18:Int)))=false->(true=true)/\rdQ 1 c ((∃_:Unit,True/\Value.bool (decide (t≥(4:Int)))= .bool false)/\ ∀_:Unit,(True)->false=false/\false=false/\(∃_:Unit,True/\Value.int .i64 (IntKind.i64.wrap q)= .int .i64 q)/\ ∀_:Unit,(True)->false=false/\((decide (q≥(18:Int)))=true->book_wrong2_Q c t n p q (Value.int .i64 1) (bk c #[.int .u8 p, .int .u8 q] 5))/\((decide (q≥(18:Int)))=false->(false=false)/\rdQ 4 b1 ((PureRun Tryz.prog (xBin .eql 29 (vI n) (vI 0)) (.bool (num (vI n)==num (vI 0))))/\((num (vI n)==num (vI 0))=true->book_wrong2_Q c t n p q (Value.int .i64 3) (bk c #[.int .u8 p, .int .u8 q] 5))/\((num (vI n)==num (vI 0))=false->book_wrong2_Q c t n p q (Value.int .i64 0) (bk c #[.int .u8 p, .int .u8 q] 5))))))))):=by kernel_rfl
set_option maxRecDepth 100000 in
theorem book_wrong2 (c:Nat) (t n p q:Int) (r_n:R4 n) (wp:(Lit.int .u8 p).wf=true) (wq:(Lit.int .u8 q).wf=true):book_wrong2_A c t n p q (fun za zh zv zu zp=>CallT Tryz.prog 53 za zh Int zv zu zp):=by
  refine call_of (c:=bodyOf Tryz.f53) (n:=26) (fn:=Tryz.f53) Tryz.mixed Tryz.func53 (by kernel_rfl) (by kernel_rfl) (by kernel_rfl) 2000 _ [] [0] rfl rfl (Eq.mpr (book_wrong2_vc c t n p q) ?_)
  have wp' :=wf8' wp
  have wq' :=wf8' wq
  intro b1
  refine ⟨rfl,rdQ_mk 1 _ ⟨fun h1=> ?_,fun h1=> ?_⟩⟩
  · refine ⟨⟨(),trivial,congrArg Value.bool h1⟩,fun _=>fun _=>⟨rfl,rfl,rfl,⟨rfl,?_⟩⟩⟩
    unfold book_wrong2_Q
    have hs:bw2 t p q n=1:=by
      try simp (disch:=first | assumption | exact R4_zero | exact R4_one) only [rdx] at *
      unfold bw2
      (repeat' split)<;>first | rfl | (exfalso;omega)
    exact ⟨_,by first | exact hs.symm | (rw [num_vI r_n];exact hs.symm),rfl,rfl,trivial⟩
  refine ⟨⟨(),trivial,congrArg Value.bool h1⟩,fun _=>fun _=>⟨rfl,rfl,⟨(),trivial,congrArg (Value.int .i64) (wrap_i64 _ (by omega) (by omega))⟩,fun _=>fun _=>⟨rfl,⟨fun h2=> ?_,fun h2=> ?_⟩⟩⟩⟩
  · unfold book_wrong2_Q
    have hs:bw2 t p q n=1:=by
      try simp (disch:=first | assumption | exact R4_zero | exact R4_one) only [rdx] at *
      unfold bw2
      (repeat' split)<;>first | rfl | (exfalso;omega)
    exact ⟨_,by first | exact hs.symm | (rw [num_vI r_n];exact hs.symm),rfl,rfl,trivial⟩
  refine ⟨rfl,rdQ_mk 1 _ ⟨⟨(),trivial,congrArg Value.bool h1⟩,fun _=>fun _=>⟨rfl,rfl,⟨(),trivial,congrArg (Value.int .i64) (wrap_i64 _ (by omega) (by omega))⟩,fun _=>fun _=>⟨rfl,⟨fun h3=> ?_,fun h3=> ?_⟩⟩⟩⟩⟩
  · unfold book_wrong2_Q
    have hs:bw2 t p q n=1:=by
      try simp (disch:=first | assumption | exact R4_zero | exact R4_one) only [rdx] at *
      unfold bw2
      (repeat' split)<;>first | rfl | (exfalso;omega)
    exact ⟨_,by first | exact hs.symm | (rw [num_vI r_n];exact hs.symm),rfl,rfl,trivial⟩
  refine ⟨rfl,rdQ_mk 4 _ ⟨Tryz.xeq29 n 0,⟨fun h4=> ?_,fun h4=> ?_⟩⟩⟩
  · unfold book_wrong2_Q
    have hs:bw2 t p q n=3:=by
      try simp (disch:=first | assumption | exact R4_zero | exact R4_one) only [rdx] at *
      unfold bw2
      (repeat' split)<;>first | rfl | (exfalso;omega)
    exact ⟨_,by first | exact hs.symm | (rw [num_vI r_n];exact hs.symm),rfl,rfl,trivial⟩
  unfold book_wrong2_Q
  have hs:bw2 t p q n=0:=by
    try simp (disch:=first | assumption | exact R4_zero | exact R4_one) only [rdx] at *
    unfold bw2
    (repeat' split)<;>first | rfl | (exfalso;omega)
  exact ⟨_,by first | exact hs.symm | (rw [num_vI r_n];exact hs.symm),rfl,rfl,trivial⟩
abbrev book_wrong2_K (c:Nat) (t n p q:Int) (KK:Int->Prop):Prop:=book_wrong2_A c t n p q (fun za zh zv zu zp=>callQr Tryz.prog 53 za zh Int zv zp KK)
theorem book_wrong2_m (c:Nat) (t n p q:Int) {KK:Int->Prop} (kont: ∀zx:Int,(zx=bw2 t p q n)->KK zx) (r_n:R4 n:=by assumption) (wp:(Lit.int .u8 p).wf=true:=by first | assumption | decide) (wq:(Lit.int .u8 q).wf=true:=by first | assumption | decide):book_wrong2_K c t n p q KK:=callQr_mk (book_wrong2 c t n p q r_n wp wq) (⟨_,rfl⟩) fun zx hz=>by
  try simp only [num_vI (n:=n) r_n] at hz
  exact kont zx hz
def book_Mint_C:List Value->List Slot->Ctr:=fun vs hs=>⟨Int×BS,fun zx=> .int .i64 zx.1,fun zx=> [.blk (vblk (varg vs 1)) (.cells #[.pointer (some ⟨(vblk (scell (sarg hs 0) 0)),0,none⟩), .pointer (some ⟨(vblk (scell (sarg hs 0) 1)),0,none⟩)] 104 (0,0)),(mS Tryz.mk138 (vblk (scell (sarg hs 0) 0)) (snum (sarg hs 1) 1) zx.2.1),(mS Tryz.mk143 (vblk (scell (sarg hs 0) 1)) (snum (sarg hs 1) 1) zx.2.2.1),(jS Tryz.jk (snum (sarg hs 1) 1) zx.2.2.2)],fun zx=>zx=bMint (Tryz.ent138 (vblk (scell (sarg hs 0) 0))) (Tryz.ent143 (vblk (scell (sarg hs 0) 1))) (((skv (sarg hs 1)),(skv (sarg hs 2)),(sents (sarg hs 3))):BS) (ci (varg vs 2)) (ci (varg vs 3)) (num (varg vs 4))⟩
abbrev book_Mint_Q (b bm bs bj:Nat) (mb ms:KV) (L:List Ent) (t p n:Int) (zv:Value) (zs0:Slot) (zs1:Slot) (zs2:Slot) (zs3:Slot):Prop:= ∃zx:Int×BS,(zx=bMint (Tryz.ent138 bm) (Tryz.ent143 bs) ((mb,ms,L):BS) t p (num (vI n)))/\zv= .int .i64 zx.1/\zs0=bk b #[pp bm 0,pp bs 0] 104/\zs1=(mS Tryz.mk138 bm bj zx.2.1)/\zs2=(mS Tryz.mk143 bs bj zx.2.2.1)/\zs3=(jS Tryz.jk bj zx.2.2.2)/\True
abbrev book_Mint_A (b bm bs bj:Nat) (mb ms:KV) (L:List Ent) (t p n:Int) (zF:SF (Int×BS)):Prop:=zF #[pp b 0, .int .u8 t, .int .u8 p,vI n] [bk b #[pp bm 0,pp bs 0] 104,(mS Tryz.mk138 bm bj mb),(mS Tryz.mk143 bs bj ms),(jS Tryz.jk bj L)] (fun zx=> .int .i64 zx.1) (fun zx=> [bk b #[pp bm 0,pp bs 0] 104,(mS Tryz.mk138 bm bj zx.2.1),(mS Tryz.mk143 bs bj zx.2.2.1),(jS Tryz.jk bj zx.2.2.2)]) (fun zx=>(zx=bMint (Tryz.ent138 bm) (Tryz.ent143 bs) ((mb,ms,L):BS) t p (num (vI n))))
set_option maxRecDepth 100000 in
set_option maxHeartbeats 1000000 in
theorem book_Mint_vc (b bm bs bj:Nat) (mb ms:KV) (L:List Ent) (t p n:Int):book_Mint_A b bm bs bj mb ms L t p n (fun za zh zv zu zp=>codeW Tryz.prog 55 none 2000 none (bodyOf Tryz.f28) (.reg [.sem [.nw 4],S0] (.reg [S0, .sem (rds 4 4),S0, .sem [.nw 5], .callr [5] book_wrong1_C,S0] (.reg [S0,S0] (.cond (.reg [S0,S0] (.done)) (.reg [S0,S0, .callr [0,2] book_Supply_C, .sem (rds 4 4), .callr [] huge_Add_C,S0,S0,S0, .sem [.nw 6], .sem (wrs 4 6),S0] (.reg [S0,S0] (.cond (.reg [S0,S0] (.done)) (.reg [S0,S0,S0, .callr [0,1] book_Balance_C, .sem (rds 4 4), .callr [] huge_Add_C,S0,S0,S0, .sem [.nw 7], .sem (wrs 4 7),S0] (.reg [S0,S0,S0, .sem [.rd 0],S0, .sem (rds 4 6), .callw [2,3] [2,3] stage_Set143_C] (.reg [S0,S0,S0,S0, .sem (rds 4 7), .callw [0,1,2,3] [0,1,2,3] book_put_C] (.reg [S0] (.done))))))))))))
    (init za zh) (finW Tryz.prog Tryz.f28 [] [0,1,2,3] (X:=Int×BS) zv zu zp))=
    (∀b1:Nat,rdQ 4 b1 (∀b2:Nat,book_wrong1_K b2 t n p (fun x3=>((x3 !=(0:Int))=true->book_Mint_Q b bm bs bj mb ms L t p n (Value.int .i64 x3) (bk b #[pp bm 0,pp bs 0] 104) (mS Tryz.mk138 bm bj mb) (mS Tryz.mk143 bs bj ms) (jS Tryz.jk bj L))/\((x3 !=(0:Int))=false->book_Supply_K b bm bs bj ms t (fun x4=>rdQ 4 b1 (huge_Add_K x4 n (fun x5=> ∀b6:Nat,rdQ 4 b6 (((x5.2 !=(0:Int))=true->book_Mint_Q b bm bs bj mb ms L t p n (Value.int .i64 x5.2) (bk b #[pp bm 0,pp bs 0] 104) (mS Tryz.mk138 bm bj mb) (mS Tryz.mk143 bs bj ms) (jS Tryz.jk bj L))/\((x5.2 !=(0:Int))=false->book_Balance_K b bm bs bj mb t p (fun x7=>rdQ 4 b1 (huge_Add_K x7 n (fun x8=> ∀b9:Nat,rdQ 4 b9 (rdQ 1 b (rdQ 4 b6 (callQ Tryz.prog 55 #[pp bs 0, .int .u8 t,vI x5.1] [(mS Tryz.mk143 bs bj ms),(jS Tryz.jk bj L)] (KV×List Ent) (fun zx=> .tuple #[]) (fun zx=> [(mS Tryz.mk143 bs bj zx.1),(jS Tryz.jk bj zx.2)]) (fun zx=>zx.1=mset ms (Value.int .u8 t) (vI x5.1)/\zx.2=L++ [(Tryz.ent143 bs ms (Value.int .u8 t))]) (fun x10=>rdQ 4 b9 (book_put_K b bm bs bj mb x10.1 x10.2 t p x8.1 (fun x11=>book_Mint_Q b bm bs bj mb ms L t p n (Value.int .i64 0) (bk b #[pp bm 0,pp bs 0] 104) (mS Tryz.mk138 bm bj x11.1) (mS Tryz.mk143 bs bj x11.2.1) (jS Tryz.jk bj x11.2.2))))))))))))))))))):=by kernel_rfl
set_option maxRecDepth 100000 in
set_option maxHeartbeats 1000000 in
theorem book_Mint (b bm bs bj:Nat) (mb ms:KV) (L:List Ent) (t p n:Int) (r_n:R4 n) (wp:(Lit.int .u8 p).wf=true) (hb:KOK Tryz.mk138 mb) (hs:KOK Tryz.mk143 ms) (hl:L.length<=1000000):book_Mint_A b bm bs bj mb ms L t p n (fun za zh zv zu zp=>CallT Tryz.prog 28 za zh (Int×BS) zv zu zp):=by
  refine call_of (c:=bodyOf Tryz.f28) (n:=55) (fn:=Tryz.f28) Tryz.mixed Tryz.func28 (by kernel_rfl) (by kernel_rfl) (by kernel_rfl) 2000 _ [] [0,1,2,3] rfl rfl (Eq.mpr (book_Mint_vc b bm bs bj mb ms L t p n) ?_)
  intro b1
  refine rdQ_mk 4 _ (fun b2=>book_wrong1_m b2 t n p (fun x3 h1=> ?_))
  have hw:=h1
  refine ⟨fun h2=> ?_,fun h2=> ?_⟩
  · exact ⟨(x3,mb,ms,L),by rw [num_vI r_n];exact (bMint_w hw (bne_iff_ne.1 h2)).symm,rfl,rfl,rfl,rfl,rfl,trivial⟩
  have hw0:=h2
  have w0' :=bne_eq_false_iff_eq.1 hw0
  rw [w0'] at hw
  refine book_Supply_m b bm bs bj ms t (fun x4 rh3_ h3=> ?_)
  have hsu:=h3
  refine rdQ_mk 4 _ (huge_Add_m x4 n (fun x5 rh4_1 h4=> ?_))
  have ha:=h4
  intro b6
  refine rdQ_mk 4 _ ⟨fun h5=> ?_,fun h5=> ?_⟩
  · have q:=add_ov ha h5
    exact ⟨(2,mb,ms,L),by rw [num_vI r_n];exact (bMint_ov hw (by rw [hsu] at q;exact q.2)).symm,by rw [q.1],rfl,rfl,rfl,rfl,trivial⟩
  refine book_Balance_m b bm bs bj mb t p (fun x7 rh6_ h6=> ?_)
  have hba:=h6
  refine rdQ_mk 4 _ (huge_Add_m x7 n (fun x8 rh7_1 h7=> ?_))
  have hnow:=h7
  intro b9
  refine rdQ_mk 4 _ (rdQ_mk 1 _ (rdQ_mk 4 _ (callQ_mk (stage_Set143 bs bj ms L t x5.1 (by assumption) (by omega)) (⟨(_,_),rfl,rfl⟩) fun x10 h8=> ?_)))
  try simp only [num_vI (n:=x5.1) (by assumption)] at h8
  have hse:=h8
  have l1:List.length x10.2=L.length+1:=by rw [hse.2];simp
  refine rdQ_mk 4 _ (book_put_m b bm bs bj mb x10.1 x10.2 t p x8.1 (fun x11 h9=> ?_))
  have hput:=h9
  unfold book_Mint_Q
  have q:=add_ok ha h5
  rw [hsu] at q
  exact ⟨(0,x11),by rw [num_vI r_n];exact (bMint_ok hw (by have:=q.2;simp only;omega) q.1 hse.1 hse.2 (by rw [hnow,hba]) hput).symm,rfl,rfl,rfl,congrArg (mS Tryz.mk143 bs bj) (by rw [hput];try rfl),rfl,trivial⟩
abbrev book_Mint_K (b bm bs bj:Nat) (mb ms:KV) (L:List Ent) (t p n:Int) (KK:(Int×BS)->Prop):Prop:=book_Mint_A b bm bs bj mb ms L t p n (fun za zh zv zu zp=>callQ Tryz.prog 28 za zh (Int×BS) zv zu zp KK)
theorem book_Mint_m (b bm bs bj:Nat) (mb ms:KV) (L:List Ent) (t p n:Int) {KK:(Int×BS)->Prop} (kont: ∀zx:Int×BS,(zx=bMint (Tryz.ent138 bm) (Tryz.ent143 bs) ((mb,ms,L):BS) t p n)->KK zx) (r_n:R4 n:=by assumption) (wp:(Lit.int .u8 p).wf=true:=by first | assumption | decide) (hb:KOK Tryz.mk138 mb:=by assumption) (hs:KOK Tryz.mk143 ms:=by assumption) (hl:L.length<=1000000:=by omega):book_Mint_K b bm bs bj mb ms L t p n KK:=callQ_mk (book_Mint b bm bs bj mb ms L t p n r_n wp hb hs hl) (⟨_,rfl⟩) fun zx hz=>by
  try simp only [num_vI (n:=n) r_n] at hz
  exact kont zx hz
def book_Burn_C:List Value->List Slot->Ctr:=fun vs hs=>⟨Int×BS,fun zx=> .int .i64 zx.1,fun zx=> [.blk (vblk (varg vs 1)) (.cells #[.pointer (some ⟨(vblk (scell (sarg hs 0) 0)),0,none⟩), .pointer (some ⟨(vblk (scell (sarg hs 0) 1)),0,none⟩)] 104 (0,0)),(mS Tryz.mk138 (vblk (scell (sarg hs 0) 0)) (snum (sarg hs 1) 1) zx.2.1),(mS Tryz.mk143 (vblk (scell (sarg hs 0) 1)) (snum (sarg hs 1) 1) zx.2.2.1),(jS Tryz.jk (snum (sarg hs 1) 1) zx.2.2.2)],fun zx=>zx=bBurn (Tryz.ent138 (vblk (scell (sarg hs 0) 0))) (Tryz.ent143 (vblk (scell (sarg hs 0) 1))) (((skv (sarg hs 1)),(skv (sarg hs 2)),(sents (sarg hs 3))):BS) (ci (varg vs 2)) (ci (varg vs 3)) (num (varg vs 4))⟩
abbrev book_Burn_Q (b bm bs bj:Nat) (mb ms:KV) (L:List Ent) (t p n:Int) (zv:Value) (zs0:Slot) (zs1:Slot) (zs2:Slot) (zs3:Slot):Prop:= ∃zx:Int×BS,(zx=bBurn (Tryz.ent138 bm) (Tryz.ent143 bs) ((mb,ms,L):BS) t p (num (vI n)))/\zv= .int .i64 zx.1/\zs0=bk b #[pp bm 0,pp bs 0] 104/\zs1=(mS Tryz.mk138 bm bj zx.2.1)/\zs2=(mS Tryz.mk143 bs bj zx.2.2.1)/\zs3=(jS Tryz.jk bj zx.2.2.2)/\True
abbrev book_Burn_A (b bm bs bj:Nat) (mb ms:KV) (L:List Ent) (t p n:Int) (zF:SF (Int×BS)):Prop:=zF #[pp b 0, .int .u8 t, .int .u8 p,vI n] [bk b #[pp bm 0,pp bs 0] 104,(mS Tryz.mk138 bm bj mb),(mS Tryz.mk143 bs bj ms),(jS Tryz.jk bj L)] (fun zx=> .int .i64 zx.1) (fun zx=> [bk b #[pp bm 0,pp bs 0] 104,(mS Tryz.mk138 bm bj zx.2.1),(mS Tryz.mk143 bs bj zx.2.2.1),(jS Tryz.jk bj zx.2.2.2)]) (fun zx=>(zx=bBurn (Tryz.ent138 bm) (Tryz.ent143 bs) ((mb,ms,L):BS) t p (num (vI n))))
set_option maxRecDepth 100000 in
set_option maxHeartbeats 1000000 in
theorem book_Burn_vc (b bm bs bj:Nat) (mb ms:KV) (L:List Ent) (t p n:Int):book_Burn_A b bm bs bj mb ms L t p n (fun za zh zv zu zp=>codeW Tryz.prog 54 none 2000 none (bodyOf Tryz.f29) (.reg [.sem [.nw 4],S0] (.reg [S0, .sem (rds 4 4),S0, .sem [.nw 5], .callr [5] book_wrong1_C,S0] (.reg [S0,S0] (.cond (.reg [S0,S0] (.done)) (.reg [S0,S0,S0, .callr [0,1] book_Balance_C, .sem (rds 4 4), .callr [] huge_Sub_C,S0,S0,S0, .sem [.nw 6], .sem (wrs 4 6),S0] (.reg [S0,S0] (.cond (.reg [S0] (.done)) (.reg [S0,S0, .callr [0,2] book_Supply_C, .sem (rds 4 4), .callr [] huge_Sub_C,S0,S0,S0, .sem [.nw 7], .sem (wrs 4 7),S0] (.reg [S0,S0,S0, .sem [.rd 0],S0, .sem (rds 4 7), .callw [2,3] [2,3] stage_Set143_C] (.reg [S0,S0,S0,S0, .sem (rds 4 6), .callw [0,1,2,3] [0,1,2,3] book_put_C] (.reg [S0] (.done))))))))))))
    (init za zh) (finW Tryz.prog Tryz.f29 [] [0,1,2,3] (X:=Int×BS) zv zu zp))=
    (∀b1:Nat,rdQ 4 b1 (∀b2:Nat,book_wrong1_K b2 t n p (fun x3=>((x3 !=(0:Int))=true->book_Burn_Q b bm bs bj mb ms L t p n (Value.int .i64 x3) (bk b #[pp bm 0,pp bs 0] 104) (mS Tryz.mk138 bm bj mb) (mS Tryz.mk143 bs bj ms) (jS Tryz.jk bj L))/\((x3 !=(0:Int))=false->book_Balance_K b bm bs bj mb t p (fun x4=>rdQ 4 b1 (huge_Sub_K x4 n (fun x5=> ∀b6:Nat,rdQ 4 b6 (((x5.2 !=(0:Int))=true->book_Burn_Q b bm bs bj mb ms L t p n (Value.int .i64 8) (bk b #[pp bm 0,pp bs 0] 104) (mS Tryz.mk138 bm bj mb) (mS Tryz.mk143 bs bj ms) (jS Tryz.jk bj L))/\((x5.2 !=(0:Int))=false->book_Supply_K b bm bs bj ms t (fun x7=>rdQ 4 b1 (huge_Sub_K x7 n (fun x8=> ∀b9:Nat,rdQ 4 b9 (rdQ 1 b (rdQ 4 b9 (callQ Tryz.prog 55 #[pp bs 0, .int .u8 t,vI x8.1] [(mS Tryz.mk143 bs bj ms),(jS Tryz.jk bj L)] (KV×List Ent) (fun zx=> .tuple #[]) (fun zx=> [(mS Tryz.mk143 bs bj zx.1),(jS Tryz.jk bj zx.2)]) (fun zx=>zx.1=mset ms (Value.int .u8 t) (vI x8.1)/\zx.2=L++ [(Tryz.ent143 bs ms (Value.int .u8 t))]) (fun x10=>rdQ 4 b6 (book_put_K b bm bs bj mb x10.1 x10.2 t p x5.1 (fun x11=>book_Burn_Q b bm bs bj mb ms L t p n (Value.int .i64 0) (bk b #[pp bm 0,pp bs 0] 104) (mS Tryz.mk138 bm bj x11.1) (mS Tryz.mk143 bs bj x11.2.1) (jS Tryz.jk bj x11.2.2))))))))))))))))))):=by kernel_rfl
set_option maxRecDepth 100000 in
set_option maxHeartbeats 1000000 in
theorem book_Burn (b bm bs bj:Nat) (mb ms:KV) (L:List Ent) (t p n:Int) (r_n:R4 n) (wp:(Lit.int .u8 p).wf=true) (hb:KOK Tryz.mk138 mb) (hs:KOK Tryz.mk143 ms) (hl:L.length<=1000000):book_Burn_A b bm bs bj mb ms L t p n (fun za zh zv zu zp=>CallT Tryz.prog 29 za zh (Int×BS) zv zu zp):=by
  refine call_of (c:=bodyOf Tryz.f29) (n:=54) (fn:=Tryz.f29) Tryz.mixed Tryz.func29 (by kernel_rfl) (by kernel_rfl) (by kernel_rfl) 2000 _ [] [0,1,2,3] rfl rfl (Eq.mpr (book_Burn_vc b bm bs bj mb ms L t p n) ?_)
  intro b1
  refine rdQ_mk 4 _ (fun b2=>book_wrong1_m b2 t n p (fun x3 h1=> ?_))
  have hw:=h1
  refine ⟨fun h2=> ?_,fun h2=> ?_⟩
  · exact ⟨(x3,mb,ms,L),by rw [num_vI r_n];exact (bBurn_w hw (bne_iff_ne.1 h2)).symm,rfl,rfl,rfl,rfl,rfl,trivial⟩
  have hw0:=h2
  have w0' :=bne_eq_false_iff_eq.1 hw0
  rw [w0'] at hw
  refine book_Balance_m b bm bs bj mb t p (fun x4 rh3_ h3=> ?_)
  have hba:=h3
  refine rdQ_mk 4 _ (huge_Sub_m x4 n (fun x5 rh4_1 h4=> ?_))
  have ha:=h4
  intro b6
  refine rdQ_mk 4 _ ⟨fun h5=> ?_,fun h5=> ?_⟩
  · unfold book_Burn_Q
    have q:=sub_no ha h5
    rw [hba] at q
    exact ⟨(8,mb,ms,L),by rw [num_vI r_n];exact (bBurn_no hw q.2).symm,rfl,rfl,rfl,rfl,rfl,trivial⟩
  refine book_Supply_m b bm bs bj ms t (fun x7 rh6_ h6=> ?_)
  have hsu:=h6
  refine rdQ_mk 4 _ (huge_Sub_m x7 n (fun x8 rh7_1 h7=> ?_))
  have hnow:=h7
  intro b9
  refine rdQ_mk 4 _ (rdQ_mk 1 _ (rdQ_mk 4 _ (callQ_mk (stage_Set143 bs bj ms L t x8.1 (by assumption) (by omega)) (⟨(_,_),rfl,rfl⟩) fun x10 h8=> ?_)))
  try simp only [num_vI (n:=x8.1) (by assumption)] at h8
  have hse:=h8
  have l1:List.length x10.2=L.length+1:=by rw [hse.2];simp
  refine rdQ_mk 4 _ (book_put_m b bm bs bj mb x10.1 x10.2 t p x5.1 (fun x11 h9=> ?_))
  have hput:=h9
  unfold book_Burn_Q
  have q:=sub_ok ha h5
  rw [hba] at q
  exact ⟨(0,x11),by rw [num_vI r_n];exact (bBurn_ok hw (by have:=q.2;simp only;omega) (by rw [hnow,hsu]) hse.1 hse.2 q.1 hput).symm,rfl,rfl,rfl,congrArg (mS Tryz.mk143 bs bj) (by rw [hput];try rfl),rfl,trivial⟩
abbrev book_Burn_K (b bm bs bj:Nat) (mb ms:KV) (L:List Ent) (t p n:Int) (KK:(Int×BS)->Prop):Prop:=book_Burn_A b bm bs bj mb ms L t p n (fun za zh zv zu zp=>callQ Tryz.prog 29 za zh (Int×BS) zv zu zp KK)
theorem book_Burn_m (b bm bs bj:Nat) (mb ms:KV) (L:List Ent) (t p n:Int) {KK:(Int×BS)->Prop} (kont: ∀zx:Int×BS,(zx=bBurn (Tryz.ent138 bm) (Tryz.ent143 bs) ((mb,ms,L):BS) t p n)->KK zx) (r_n:R4 n:=by assumption) (wp:(Lit.int .u8 p).wf=true:=by first | assumption | decide) (hb:KOK Tryz.mk138 mb:=by assumption) (hs:KOK Tryz.mk143 ms:=by assumption) (hl:L.length<=1000000:=by omega):book_Burn_K b bm bs bj mb ms L t p n KK:=callQ_mk (book_Burn b bm bs bj mb ms L t p n r_n wp hb hs hl) (⟨_,rfl⟩) fun zx hz=>by
  try simp only [num_vI (n:=n) r_n] at hz
  exact kont zx hz
def book_Move_C:List Value->List Slot->Ctr:=fun vs hs=>⟨Int×BS,fun zx=> .int .i64 zx.1,fun zx=> [.blk (vblk (varg vs 1)) (.cells #[.pointer (some ⟨(vblk (scell (sarg hs 0) 0)),0,none⟩), .pointer (some ⟨(vblk (scell (sarg hs 0) 1)),0,none⟩)] 104 (0,0)),(mS Tryz.mk138 (vblk (scell (sarg hs 0) 0)) (snum (sarg hs 1) 1) zx.2.1),(mS Tryz.mk143 (vblk (scell (sarg hs 0) 1)) (snum (sarg hs 1) 1) zx.2.2.1),(jS Tryz.jk (snum (sarg hs 1) 1) zx.2.2.2)],fun zx=>zx=bMove (Tryz.ent138 (vblk (scell (sarg hs 0) 0))) (((skv (sarg hs 1)),(skv (sarg hs 2)),(sents (sarg hs 3))):BS) (ci (varg vs 2)) (ci (varg vs 3)) (ci (varg vs 4)) (num (varg vs 5))⟩
abbrev book_Move_Q (b bm bs bj:Nat) (mb ms:KV) (L:List Ent) (t p q n:Int) (zv:Value) (zs0:Slot) (zs1:Slot) (zs2:Slot) (zs3:Slot):Prop:= ∃zx:Int×BS,(zx=bMove (Tryz.ent138 bm) ((mb,ms,L):BS) t p q (num (vI n)))/\zv= .int .i64 zx.1/\zs0=bk b #[pp bm 0,pp bs 0] 104/\zs1=(mS Tryz.mk138 bm bj zx.2.1)/\zs2=(mS Tryz.mk143 bs bj zx.2.2.1)/\zs3=(jS Tryz.jk bj zx.2.2.2)/\True
abbrev book_Move_A (b bm bs bj:Nat) (mb ms:KV) (L:List Ent) (t p q n:Int) (zF:SF (Int×BS)):Prop:=zF #[pp b 0, .int .u8 t, .int .u8 p, .int .u8 q,vI n] [bk b #[pp bm 0,pp bs 0] 104,(mS Tryz.mk138 bm bj mb),(mS Tryz.mk143 bs bj ms),(jS Tryz.jk bj L)] (fun zx=> .int .i64 zx.1) (fun zx=> [bk b #[pp bm 0,pp bs 0] 104,(mS Tryz.mk138 bm bj zx.2.1),(mS Tryz.mk143 bs bj zx.2.2.1),(jS Tryz.jk bj zx.2.2.2)]) (fun zx=>(zx=bMove (Tryz.ent138 bm) ((mb,ms,L):BS) t p q (num (vI n))))
set_option maxRecDepth 100000 in
set_option maxHeartbeats 1000000 in
theorem book_Move_vc (b bm bs bj:Nat) (mb ms:KV) (L:List Ent) (t p q n:Int):book_Move_A b bm bs bj mb ms L t p q n (fun za zh zv zu zp=>codeW Tryz.prog 57 none 2000 none (bodyOf Tryz.f30) (.reg [.sem [.nw 4],S0] (.reg [S0, .sem (rds 4 4),S0,S0, .sem [.nw 5], .callr [5] book_wrong2_C,S0] (.reg [S0,S0] (.cond (.reg [S0,S0] (.done)) (.reg [S0,S0,S0, .callr [0,1] book_Balance_C, .sem (rds 4 4), .callr [] huge_Sub_C,S0,S0,S0, .sem [.nw 6], .sem (wrs 4 6),S0] (.reg [S0,S0] (.cond (.reg [S0] (.done)) (.reg [S0,S0,S0,S0, .sem (rds 4 6), .callw [0,1,2,3] [0,1,2,3] book_put_C] (.reg [S0,S0,S0, .callr [0,1] book_Balance_C, .sem (rds 4 4), .callr [] huge_Add_C,S0,S0,S0, .sem [.nw 7], .sem (wrs 4 7),S0] (.reg [S0,S0,S0,S0, .sem (rds 4 7), .callw [0,1,2,3] [0,1,2,3] book_put_C] (.reg [S0] (.done))))))))))))
    (init za zh) (finW Tryz.prog Tryz.f30 [] [0,1,2,3] (X:=Int×BS) zv zu zp))=
    (∀b1:Nat,rdQ 4 b1 (∀b2:Nat,book_wrong2_K b2 t n p q (fun x3=>((x3 !=(0:Int))=true->book_Move_Q b bm bs bj mb ms L t p q n (Value.int .i64 x3) (bk b #[pp bm 0,pp bs 0] 104) (mS Tryz.mk138 bm bj mb) (mS Tryz.mk143 bs bj ms) (jS Tryz.jk bj L))/\((x3 !=(0:Int))=false->book_Balance_K b bm bs bj mb t p (fun x4=>rdQ 4 b1 (huge_Sub_K x4 n (fun x5=> ∀b6:Nat,rdQ 4 b6 (((x5.2 !=(0:Int))=true->book_Move_Q b bm bs bj mb ms L t p q n (Value.int .i64 8) (bk b #[pp bm 0,pp bs 0] 104) (mS Tryz.mk138 bm bj mb) (mS Tryz.mk143 bs bj ms) (jS Tryz.jk bj L))/\((x5.2 !=(0:Int))=false->rdQ 4 b6 (book_put_K b bm bs bj mb ms L t p x5.1 (fun x7=>book_Balance_K b bm bs bj x7.1 t q (fun x8=>rdQ 4 b1 (huge_Add_K x8 n (fun x9=> ∀b10:Nat,rdQ 4 b10 (rdQ 4 b10 (book_put_K b bm bs bj x7.1 x7.2.1 x7.2.2 t q x9.1 (fun x11=>book_Move_Q b bm bs bj mb ms L t p q n (Value.int .i64 0) (bk b #[pp bm 0,pp bs 0] 104) (mS Tryz.mk138 bm bj x11.1) (mS Tryz.mk143 bs bj x11.2.1) (jS Tryz.jk bj x11.2.2)))))))))))))))))):=by kernel_rfl
set_option maxRecDepth 100000 in
set_option maxHeartbeats 1000000 in
theorem book_Move (b bm bs bj:Nat) (mb ms:KV) (L:List Ent) (t p q n:Int) (r_n:R4 n) (wp:(Lit.int .u8 p).wf=true) (wq:(Lit.int .u8 q).wf=true) (hb:KOK Tryz.mk138 mb) (hs:KOK Tryz.mk143 ms) (hl:L.length<=1000000):book_Move_A b bm bs bj mb ms L t p q n (fun za zh zv zu zp=>CallT Tryz.prog 30 za zh (Int×BS) zv zu zp):=by
  refine call_of (c:=bodyOf Tryz.f30) (n:=57) (fn:=Tryz.f30) Tryz.mixed Tryz.func30 (by kernel_rfl) (by kernel_rfl) (by kernel_rfl) 2000 _ [] [0,1,2,3] rfl rfl (Eq.mpr (book_Move_vc b bm bs bj mb ms L t p q n) ?_)
  intro b1
  refine rdQ_mk 4 _ (fun b2=>book_wrong2_m b2 t n p q (fun x3 h1=> ?_))
  have hw:=h1
  refine ⟨fun h2=> ?_,fun h2=> ?_⟩
  · exact ⟨(x3,mb,ms,L),by rw [num_vI r_n];exact (bMove_w hw (bne_iff_ne.1 h2)).symm,rfl,rfl,rfl,rfl,rfl,trivial⟩
  have hw0:=h2
  have w0' :=bne_eq_false_iff_eq.1 hw0
  rw [w0'] at hw
  refine book_Balance_m b bm bs bj mb t p (fun x4 rh3_ h3=> ?_)
  have hba:=h3
  refine rdQ_mk 4 _ (huge_Sub_m x4 n (fun x5 rh4_1 h4=> ?_))
  have ha:=h4
  intro b6
  refine rdQ_mk 4 _ ⟨fun h5=> ?_,fun h5=> ?_⟩
  · unfold book_Move_Q
    have q:=sub_no ha h5
    rw [hba] at q
    exact ⟨(8,mb,ms,L),by rw [num_vI r_n];exact (bMove_no hw q.2).symm,rfl,rfl,rfl,rfl,rfl,trivial⟩
  refine rdQ_mk 4 _ (book_put_m b bm bs bj mb ms L t p x5.1 (fun x7 h6=> ?_))
  have hput:=h6
  have q0:=sub_ok ha h5
  have kb1:KOK Tryz.mk138 x7.1:=by rw [hput];exact KOK.put Tryz.numk138 hb ⟨_,_,rfl⟩ (by assumption)
  refine book_Balance_m b bm bs bj x7.1 t q (fun x8 rh7_ h7=> ?_)
  have hb2:=h7
  refine rdQ_mk 4 _ (huge_Add_m x8 n (fun x9 rh8_1 h8=> ?_))
  have hnow:=h8
  intro b10
  refine rdQ_mk 4 _ ?_
  have l1:List.length x7.2.2<=L.length+1:=by rw [hput];exact (bPut_len _ ((mb,ms,L):BS) _ _).2
  refine rdQ_mk 4 _ (book_put_m b bm bs bj x7.1 x7.2.1 x7.2.2 t q x9.1 (fun x11 h9=> ?_))
  have hput2:=h9
  unfold book_Move_Q
  have q:=sub_ok ha h5
  rw [hba] at q
  have lem:=bMove_ok (eb:=(Tryz.ent138 bm)) (s:=((mb,ms,L):BS)) hw (by have:=q.2;simp only;omega) q.1 hput (by rw [hnow,hb2]) hput2
  exact ⟨(0,x11),by rw [num_vI r_n];exact lem.symm,rfl,rfl,rfl,congrArg (mS Tryz.mk143 bs bj) (by rw [hput2,hput];try rfl),rfl,trivial⟩
abbrev book_Move_K (b bm bs bj:Nat) (mb ms:KV) (L:List Ent) (t p q n:Int) (KK:(Int×BS)->Prop):Prop:=book_Move_A b bm bs bj mb ms L t p q n (fun za zh zv zu zp=>callQ Tryz.prog 30 za zh (Int×BS) zv zu zp KK)
theorem book_Move_m (b bm bs bj:Nat) (mb ms:KV) (L:List Ent) (t p q n:Int) {KK:(Int×BS)->Prop} (kont: ∀zx:Int×BS,(zx=bMove (Tryz.ent138 bm) ((mb,ms,L):BS) t p q n)->KK zx) (r_n:R4 n:=by assumption) (wp:(Lit.int .u8 p).wf=true:=by first | assumption | decide) (wq:(Lit.int .u8 q).wf=true:=by first | assumption | decide) (hb:KOK Tryz.mk138 mb:=by assumption) (hs:KOK Tryz.mk143 ms:=by assumption) (hl:L.length<=1000000:=by omega):book_Move_K b bm bs bj mb ms L t p q n KK:=callQ_mk (book_Move b bm bs bj mb ms L t p q n r_n wp wq hb hs hl) (⟨_,rfl⟩) fun zx hz=>by
  try simp only [num_vI (n:=n) r_n] at hz
  exact kont zx hz
abbrev keys_it138_Q (l:Nat) (rec:Loop) (r c:Nat) (m:KV) (T:List Value->Slot) (zv:Value) (zs0:Slot) (zs1:Slot) (zs2:Slot) (zs3:Slot):Prop:= ∃zx:List Value,(zx.Perm (m.map (·.1)))/\zv= .tuple #[]/\zs0=(loopB l rec)/\zs1=bk c #[.map (some r)] 136/\zs2=(mo r m)/\zs3=(T zx)/\True
set_option maxRecDepth 100000 in
theorem keys_it138_vc (l:Nat) (rec:Loop) (r c:Nat) (m:KV) (T:List Value->Slot):codeW Tryz.prog 14 none 2000 none (bodyOf Tryz.f100) (.reg [.sem [.rd 1], .specw [2] [2] (fun _ _=>⟨Nat,ptr,fun it=> [mit r it m []],fun _=>True⟩)] (.inv (List Value×Nat) (fun zx=> [(0, .func (.yield l) #[] #[]),(1,pp c 0),(5,pp zx.2 0)]) (fun zx=> [(0,(loopB l rec)),(1,bk c #[.map (some r)] 136),(2,(mit r zx.2 m zx.1)),(3,(T zx.1))]) (fun zx=>zx.1.Nodup/\ ∀k∈zx.1,k∈m.map (·.1)) (fun zx=>m.length - zx.1.length) (fun x2=> .reg [.specw [2] [2] (fun _ _=>⟨Option Value,nxv m,fun x=> [mitE r x2.2 m x2.1 x],nxP m x2.1⟩), .eq (fun vs=> .bool (cb (cell (varg vs 0) 0)))] (.cond (.reg [.specr [2] (fun _ hs=>⟨Int×Int,fun zx=> .tuple #[.agg #[.int .u8 zx.1, .int .u8 zx.2],(mget m (.agg #[.int .u8 zx.1, .int .u8 zx.2])).getD undef],fun _=>hs,fun zx=>slast (sarg hs 0)=tV zx⟩),S0, .sem [.nw 4], .sem [.wr 4, .wr 4]] (.reg [S0, .sem [.rd 4, .rd 4], .callw [0,3] [0,3] (fun vs _=>⟨Unit,fun _=> .bool true,fun _=> [loopB l rec,T (x2.1++ [varg vs 1])],fun _=>True⟩),S0] (.condF (.done)))) (.done)))))
    (init #[.func (.yield l) #[] #[],pp c 0] [(loopB l rec),bk c #[.map (some r)] 136,(mo r m),(T [])]) (finW Tryz.prog Tryz.f100 [] [0,1,2,3] (X:=List Value) (fun zx=> .tuple #[]) (fun zx=> [(loopB l rec),bk c #[.map (some r)] 136,(mo r m),(T zx)]) (fun zx=>(zx.Perm (m.map (·.1)))))=
    (rdQ 1 c (opQ Tryz.prog (vS (Instr.range 136 (.map (some r)))) [(mo r m)] Nat (fun zx=>pp zx 0) (fun zx=> [(mit r zx m ([]))]) (fun zx=>True) (fun x1=>(∃zx:List Value×Nat,(zx.1.Nodup/\ ∀k∈zx.1,k∈m.map (·.1))/\Value.func (.yield l) #[] #[]= .func (.yield l) #[] #[]/\pp c 0=pp c 0/\pp x1 0=pp zx.2 0/\(loopB l rec)=(loopB l rec)/\bk c #[.map (some r)] 136=bk c #[.map (some r)] 136/\(mit r x1 m ([]))=(mit r zx.2 m zx.1)/\(T [])=(T zx.1)/\True)/\ ∀x2:List Value×Nat,∀jx2:Nat->Value,(x2.1.Nodup/\ ∀k∈x2.1,k∈m.map (·.1))->opQ Tryz.prog (vS (Instr.next (pp x2.2 0) false 0)) [(mit r x2.2 m x2.1)] (Option Value) (fun zx=>(nxv m zx)) (fun zx=> [(mitE r x2.2 m x2.1 zx)]) (fun zx=>nxP m x2.1 zx) (fun x3=>(PureRun Tryz.prog (vS (Instr.extract (nxv m x3) 0)) (.bool (cb (cell (nxv m x3) 0))))/\((cb (cell (nxv m x3) 0))=true->opQr Tryz.prog (vS (Instr.entry (pp x2.2 0))) [(mitE r x2.2 m x2.1 x3)] (Int×Int) (fun zx=> .tuple #[.agg #[.int .u8 zx.1, .int .u8 zx.2],((mget m (.agg #[.int .u8 zx.1, .int .u8 zx.2])).getD undef)]) (fun zx=>slast (mitE r x2.2 m x2.1 x3)=tV zx) (fun x4=> ∀b5:Nat,rdQ 2 b5 (rdQ 2 b5 (rndQ Tryz.prog l #[.agg #[.int .u8 x4.1, .int .u8 x4.2]] [(loopB l rec),(T x2.1)] Unit (fun _=> .bool true) (fun _=> [(loopB l rec),(T (x2.1++ [.agg #[.int .u8 x4.1, .int .u8 x4.2]]))]) (fun _=>True) (fun _=>(false=false)/\ ∃zy:List Value×Nat,(zy.1.Nodup/\ ∀k∈zy.1,k∈m.map (·.1))/\m.length - zy.1.length<m.length - x2.1.length/\Value.func (.yield l) #[] #[]= .func (.yield l) #[] #[]/\pp c 0=pp c 0/\pp x2.2 0=pp zy.2 0/\(loopB l rec)=(loopB l rec)/\bk c #[.map (some r)] 136=bk c #[.map (some r)] 136/\(mitE r x2.2 m x2.1 x3)=(mit r zy.2 m zy.1)/\(T (x2.1++ [.agg #[.int .u8 x4.1, .int .u8 x4.2]]))=(T zy.1)/\True)))))/\((cb (cell (nxv m x3) 0))=false->keys_it138_Q l rec r c m T (Value.tuple #[]) (loopB l rec) (bk c #[.map (some r)] 136) (mitE r x2.2 m x2.1 x3) (T x2.1)))))):=by kernel_rfl
set_option maxRecDepth 100000 in
theorem keys_it138 (l:Nat) (rec:Loop) (r c:Nat) (m:KV) (T:List Value->Slot) (hm:MOK m) (hi:Pairs2 (m.map (·.1))) (hT: ∀ (ks:List Value) (k:Value),(ks.Nodup/\ ∀j∈ks,j∈m.map (·.1))->k∉ks->k∈m.map (·.1)->RoundT Tryz.prog l #[k] [loopB l rec,T ks] Unit (fun _=> .bool true) (fun _=> [loopB l rec,T (ks++ [k])]) (fun _=>True)):CallT Tryz.prog 100 #[.func (.yield l) #[] #[],pp c 0] [(loopB l rec),bk c #[.map (some r)] 136,(mo r m),(T [])] (List Value) (fun zx=> .tuple #[]) (fun zx=> [(loopB l rec),bk c #[.map (some r)] 136,(mo r m),(T zx)]) (fun zx=>(zx.Perm (m.map (·.1)))):=by
  refine call_of (c:=bodyOf Tryz.f100) (n:=14) (fn:=Tryz.f100) Tryz.mixed Tryz.func100 (by kernel_rfl) (by kernel_rfl) (by kernel_rfl) 2000 _ [] [0,1,2,3] rfl rfl (Eq.mpr (keys_it138_vc l rec r c m T) ?_)
  refine rdQ_mk 1 _ (opQ_mk (xrange (kt:=99) (vt:=29) (by kernel_rfl)) (⟨0,trivial⟩) fun x1 h1=>⟨?_,fun x2 jx2 h2=> ?_⟩)
  · exact ⟨([],x1),⟨List.nodup_nil,fun k h=>by cases h⟩,rfl,rfl,rfl,rfl,rfl,rfl,rfl,trivial⟩
  have hN:=h2
  refine opQ_mk (xnext 0 hm) (wit_next hm hN) fun x3 h3=> ?_
  have hX:=h3
  refine ⟨xfirst' _ _,⟨fun h4=> ?_,fun h4=> ?_⟩⟩
  · refine opQr_mk (xentry2 hm hi hX (nx_some h4)) (slast_pair hi hX (nx_some h4)) fun x4 h5=> ?_
    have hZ:=h5
    intro b5
    refine rdQ_mk 2 _ (rdQ_mk 2 _ (rndQ_mk (keys_yield2 hX (nx_some h4) hZ (fun k=>hT x2.1 k hN)) (⟨(),trivial⟩) fun _ _=>⟨rfl,?_⟩))
    have hP:=nxP_pair hX (nx_some h4) hZ
    rw [hP.2]
    exact ⟨(x2.1++ [_],x2.2),keys_step hN hP.1,keys_mu hN hP.1,rfl,rfl,rfl,rfl,rfl,rfl,rfl,trivial⟩
  unfold keys_it138_Q
  rw [mitE_none (nx_none h4)]
  exact ⟨x2.1,nxP_none hX (nx_none h4),rfl,rfl,rfl,rfl,rfl,trivial⟩
theorem Tryz.sk153:SkT Tryz.prog 153 99 2 (Value.agg #[.int .u8 0, .int .u8 0]):=SkT.of (by kernel_rfl) (by kernel_rfl) (by kernel_rfl) rfl (fun w=>by kernel_rfl)
noncomputable def Tryz.rfA101:Code:=((rfs (bodyOf Tryz.f101)).getD 0 (.skip, .skip)).1
noncomputable def Tryz.rfB101:Code:=((rfs (bodyOf Tryz.f101)).getD 0 (.skip, .skip)).2
set_option maxRecDepth 100000 in
theorem keys_round138_vc (l D:Nat) (fn:FuncId) (tmps:Array Value) (b:Nat) (y:RK 2) (n0 n1:Int) (fr:Nat->Value):roundW Tryz.prog 13 l 400 Tryz.rfA101 Tryz.rfB101 (.reg [.sem [.nw 3], .sem [.wr 3, .wr 3]] (.reg [.sem [.rd 1], .sem [.rd 3, .rd 3], .sem [.nw 4], .specw [2,4] [2,4] (F_appK 2 99), .specw [1] [1] F_put] (.done))) (recOf fn tmps #[7] Tryz.rfA101 Tryz.rfB101 D) ⟨putFr (upd fr 2 (Value.pointer (some ⟨b,0,none⟩))) [(7, .agg #[.int .u8 n0, .int .u8 n1])],ofList (loopB l (recOf fn tmps #[7] Tryz.rfA101 Tryz.rfB101 D):: [.blk b (.cells #[sv y.1] 153 (0,0)),(sk 99 y.1)]),[]⟩ [1,2] (X:=RK 2) (fun zx:RK 2=> [.blk b (.cells #[sv zx.1] 153 (0,0)),(sk 99 zx.1)]) (fun zx:RK 2=>vals zx.1=vals y.1++ [.agg #[.int .u8 n0, .int .u8 n1]])=
    (∀b1:Nat,rdQ 2 b1 ((loopB l (recOf fn tmps #[7] Tryz.rfA101 Tryz.rfB101 D))=loopB l (recOf fn tmps #[7] Tryz.rfA101 Tryz.rfB101 D)/\rdQ 1 b (rdQ 2 b1 (∀b2:Nat,opQ Tryz.prog (do pure (.value (←Builtin.append_ #[153,153] 153 #[sv y.1, .slice (some ⟨b2,0,none⟩) 1 1]))) [(sk 99 y.1), .blk b2 (.cells #[.int .u8 n0, .int .u8 n1] 99 (0,0))] (RK 2) (fun zx=>sv zx.1) (fun zx=> [(sk 99 zx.1), .blk b2 (.cells #[.int .u8 n0, .int .u8 n1] 99 (0,0))]) (fun zx=>vals zx.1=kvals 2 (sv y.1) (sk 99 y.1)++ [.agg #[.int .u8 n0, .int .u8 n1]]) (fun x3=>opQ Tryz.prog (do Instr.storeAt 153 (.pointer (some ⟨b,0,none⟩)) (sv x3.1);pure .skip) [.blk b (.cells #[sv y.1] 153 (0,0))] Unit (fun _=> .tuple #[]) (fun _=> [.blk b (.cells #[sv x3.1] 153 (0,0))]) (fun _=>True) (fun _=>(loopB l { (recOf fn tmps #[7] Tryz.rfA101 Tryz.rfB101 D) with state:= .busy })=loopB l { (recOf fn tmps #[7] Tryz.rfA101 Tryz.rfB101 D) with state:= .busy }/\ ∃zx:RK 2,(vals zx.1=vals y.1++ [.agg #[.int .u8 n0, .int .u8 n1]])/\Slot.blk b (.cells #[sv x3.1] 153 (0,0))= .blk b (.cells #[sv zx.1] 153 (0,0))/\(sk 99 x3.1)=(sk 99 zx.1)/\True)))))):=by kernel_rfl
set_option maxRecDepth 100000 in
theorem keys_round138 (l D:Nat) (fn:FuncId) (tmps:Array Value) (b:Nat) (y:RK 2) (n0 n1:Int) (hz:tmps.size=13) (t2:tmps.getD 2 undef=Value.pointer (some ⟨b,0,none⟩)) (hy:(vals y.1).length<=1048576):RoundT Tryz.prog l #[.agg #[.int .u8 n0, .int .u8 n1]] (loopB l (recOf fn tmps #[7] Tryz.rfA101 Tryz.rfB101 D):: [.blk b (.cells #[sv y.1] 153 (0,0)),(sk 99 y.1)]) (RK 2) (fun _=> .bool true) (fun zx:RK 2=>loopB l (recOf fn tmps #[7] Tryz.rfA101 Tryz.rfB101 D):: [.blk b (.cells #[sv zx.1] 153 (0,0)),(sk 99 zx.1)]) (fun zx:RK 2=>vals zx.1=vals y.1++ [.agg #[.int .u8 n0, .int .u8 n1]]):=by
  refine round_of (n:=13) (fuel:=400) (fr:=(upd (fun i=>tmps.getD i undef) 2 (Value.pointer (some ⟨b,0,none⟩)))) (Hs:= [.blk b (.cells #[sv y.1] 153 (0,0)),(sk 99 y.1)]) (us:=(fun zx:RK 2=> [.blk b (.cells #[sv zx.1] 153 (0,0)),(sk 99 zx.1)])) Tryz.mixed hz (fun i=>congrFun (upd_known (f:=(fun i=>tmps.getD i undef)) (t:=2) (v:=Value.pointer (some ⟨b,0,none⟩)) (t2)) i) rfl rfl _ [1,2] rfl (Eq.mpr (keys_round138_vc l D fn tmps b y n0 n1 (fun i=>tmps.getD i undef)) ?_)
  intro b1
  refine rdQ_mk 2 _ ?_
  refine ⟨rfl,?_⟩
  refine rdQ_mk 1 _ ?_
  refine rdQ_mk 2 _ ?_
  intro b2
  refine opQ_mk (xappendK Tryz.sk153 153 y (by omega) b2 1 #[.int .u8 n0, .int .u8 n1] rfl (List.all_eq_true.1 rfl)) (wit_appK (kvals_all y _) rfl) fun x3 h1=> ?_
  rw [kvals_eq] at h1
  have ha:=h1
  refine opQ_mk (xputv (b:=b) (cs:= #[sv y.1]) (ty:=153) (te:=153) (fun w=>by kernel_rfl) 0 (sv x3.1) (cells_sv _) (one_sv _) (by show 0<1;decide)) (⟨(),trivial⟩) fun _ _=> ?_
  exact ⟨rfl,x3,ha,rfl,rfl,trivial⟩
theorem key_pair138 {m:KV} (hk:KOK Tryz.mk138 m) {k:Value} (h:k∈m.map (·.1)): ∃n0 n1:Int,k= .agg #[.int .u8 n0, .int .u8 n1]:=by
  obtain ⟨x,hx,rfl⟩:=List.mem_map.1 h
  exact (hk.ok x hx).1
theorem key_pairs138 {m:KV} (hk:KOK Tryz.mk138 m):Pairs2 (m.map (·.1)):=fun v hv=>key_pair138 hk hv
def keys_AppendSeq138_C:List Value->List Slot->Ctr:=fun vs hs=>⟨RK 2,fun zx=>sv zx.1,fun zx=> [.blk (sblk (sarg hs 0)) (.cells #[.map (some (vblk (scell (sarg hs 0) 0)))] 136 (0,0)),(mo (vblk (scell (sarg hs 0) 0)) (skv (sarg hs 1))),(sk 99 zx.1)],fun zx=>(vals zx.1).Perm ((skv (sarg hs 1)).map (·.1))⟩
abbrev keys_AppendSeq138_Q (r c:Nat) (m:KV) (zv:Value) (zs0:Slot) (zs1:Slot) (zs2:Slot):Prop:= ∃zx:RK 2,((vals zx.1).Perm (m.map (·.1)))/\zv=sv zx.1/\zs0=bk c #[.map (some r)] 136/\zs1=(mo r m)/\zs2=(sk 99 zx.1)/\True
abbrev keys_AppendSeq138_A (r c:Nat) (m:KV) (zF:SF (RK 2)):Prop:=zF #[.slice none 0 0, .func (.func 100) #[] #[pp c 0]] [bk c #[.map (some r)] 136,(mo r m)] (fun zx=>sv zx.1) (fun zx=> [bk c #[.map (some r)] 136,(mo r m),(sk 99 zx.1)]) (fun zx=>((vals zx.1).Perm (m.map (·.1))))
set_option maxRecDepth 100000 in
theorem keys_AppendSeq138_vc (r c:Nat) (m:KV):keys_AppendSeq138_A r c m (fun za zh zv zu zp=>codeW Tryz.prog 13 none 2000 none (bodyOf Tryz.f101) (.reg [.sem [.nw 2],S0] (.reg [S0] (.rf [6,2] [0,1,2] [50,0,1,60,61] (fun _ hs=>⟨RK 2,fun _=>undef,fun zx=> [bk c #[.map (some r)] 136,(mo r m), .blk (sblk (sarg hs 2)) (.cells #[sv zx.1] 153 (0,0)),(sk 99 zx.1)],fun zx=>(vals zx.1).Perm (m.map (·.1))⟩) (.reg [.sem [.rd 60],S0] (.done)))))
    (init za zh) (finM Tryz.prog Tryz.f101 [] [0,1,61] 50 (X:=RK 2) zv zu zp))=
    (∀b1:Nat,(∀fr' :Nat->Value,fr' 6=Value.func (.func 100) #[] #[pp c 0]->fr' 2=pp b1 0->RangeT Tryz.prog 13 (Operand.tmp 6) #[7] Tryz.rfA101 Tryz.rfB101 fr' [bk c #[.map (some r)] 136,(mo r m),bk b1 #[.slice none 0 0] 153] (RK 2) (fun zx=> [bk c #[.map (some r)] 136,(mo r m),bk b1 #[sv zx.1] 153,(sk 99 zx.1)]) (fun zx=>(vals zx.1).Perm (m.map (·.1))))/\(∃zx:RK 2,(vals zx.1).Perm (m.map (·.1)))/\ ∀ (d2:Nat) (x3:RK 2),((vals x3.1).Perm (m.map (·.1)))->rdQ 1 b1 (Slot.blk d2 (.deferred (some []))= .blk d2 (.deferred (some []))/\keys_AppendSeq138_Q r c m (sv x3.1) (bk c #[.map (some r)] 136) (mo r m) (sk 99 x3.1))):=by kernel_rfl
set_option maxRecDepth 100000 in
theorem keys_AppendSeq138 (r c:Nat) (m:KV) (hk:KOK Tryz.mk138 m) (hl:m.length<=1048576):keys_AppendSeq138_A r c m (fun za zh zv zu zp=>CallT Tryz.prog 101 za zh (RK 2) zv zu zp):=by
  refine call_of_mark (c:=bodyOf Tryz.f101) (n:=13) (fn:=Tryz.f101) Tryz.mixed Tryz.func101 (by kernel_rfl) (by kernel_rfl) (by kernel_rfl) 2000 _ [] [0,1,61] 50 rfl rfl (Eq.mpr (keys_AppendSeq138_vc r c m) ?_)
  intro b1
  exact ⟨fun fr' ht hb=>range_keysK (gf:=100) ht hk.once hl (fun l rec T hT=>keys_it138 l rec r c m T hk.once (key_pairs138 hk) hT) (fun l D fn tmps y k hkm hy hz hf=>(key_pair138 hk hkm).elim fun n0 h=>h.elim fun n1 hn=>hn▸keys_round138 l D fn tmps b1 y n0 n1 hz ((hf 2).trans hb) hy),wit_permK (key_pairs138 hk),fun d2 x3 h1=>rdQ_mk 1 _ ⟨rfl,⟨x3,h1,rfl,rfl,rfl,rfl,trivial⟩⟩⟩
def keys_Collect138_C:List Value->List Slot->Ctr:=fun vs hs=>⟨RK 2,fun zx=>sv zx.1,fun zx=> [.blk (sblk (sarg hs 0)) (.cells #[.map (some (vblk (scell (sarg hs 0) 0)))] 136 (0,0)),(mo (vblk (scell (sarg hs 0) 0)) (skv (sarg hs 1))),(sk 99 zx.1)],fun zx=>(vals zx.1).Perm ((skv (sarg hs 1)).map (·.1))⟩
abbrev keys_Collect138_Q (r c:Nat) (m:KV) (zv:Value) (zs0:Slot) (zs1:Slot) (zs2:Slot):Prop:= ∃zx:RK 2,((vals zx.1).Perm (m.map (·.1)))/\zv=sv zx.1/\zs0=bk c #[.map (some r)] 136/\zs1=(mo r m)/\zs2=(sk 99 zx.1)/\True
abbrev keys_Collect138_A (r c:Nat) (m:KV) (zF:SF (RK 2)):Prop:=zF #[.func (.func 100) #[] #[pp c 0]] [bk c #[.map (some r)] 136,(mo r m)] (fun zx=>sv zx.1) (fun zx=> [bk c #[.map (some r)] 136,(mo r m),(sk 99 zx.1)]) (fun zx=>((vals zx.1).Perm (m.map (·.1))))
set_option maxRecDepth 100000 in
theorem keys_Collect138_vc (r c:Nat) (m:KV):keys_Collect138_A r c m (fun za zh zv zu zp=>codeW Tryz.prog 5 none 2000 none (bodyOf Tryz.f98) (.reg [S0] (.reg [S0, .callw [0,1] [0,1,40] keys_AppendSeq138_C,S0] (.done)))
    (init za zh) (finW Tryz.prog Tryz.f98 [] [0,1,40] (X:=RK 2) zv zu zp))=
    (callQ Tryz.prog 101 #[.slice none 0 0, .func (.func 100) #[] #[pp c 0]] [bk c #[.map (some r)] 136,(mo r m)] (RK 2) (fun zx=>sv zx.1) (fun zx=> [bk c #[.map (some r)] 136,(mo r m),(sk 99 zx.1)]) (fun zx=>(vals zx.1).Perm (m.map (·.1))) (fun x1=>keys_Collect138_Q r c m (sv x1.1) (bk c #[.map (some r)] 136) (mo r m) (sk 99 x1.1))):=by kernel_rfl
set_option maxRecDepth 100000 in
theorem keys_Collect138 (r c:Nat) (m:KV) (hk:KOK Tryz.mk138 m) (hl:m.length<=1048576):keys_Collect138_A r c m (fun za zh zv zu zp=>CallT Tryz.prog 98 za zh (RK 2) zv zu zp):=by
  refine call_of (c:=bodyOf Tryz.f98) (n:=5) (fn:=Tryz.f98) Tryz.mixed Tryz.func98 (by kernel_rfl) (by kernel_rfl) (by kernel_rfl) 2000 _ [] [0,1,40] rfl rfl (Eq.mpr (keys_Collect138_vc r c m) ?_)
  exact callQ_mk (keys_AppendSeq138 r c m (by assumption) (by assumption)) (wit_permK (key_pairs138 (by assumption))) fun x1 h1=>⟨x1,h1,rfl,rfl,rfl,rfl,trivial⟩
def maps_Keys138_C:List Value->List Slot->Ctr:=fun vs hs=>⟨Nat,fun zx=> .func (.func 100) #[] #[pp zx 0],fun zx=> [bk zx #[.map (some (vblk (varg vs 1)))] 136],fun zx=>True⟩
abbrev maps_Keys138_Q (r:Nat) (zv:Value) (zs0:Slot):Prop:= ∃zx:Nat,(True)/\zv= .func (.func 100) #[] #[pp zx 0]/\zs0=bk zx #[.map (some r)] 136/\True
abbrev maps_Keys138_A (r:Nat) (zF:SF Nat):Prop:=zF #[.map (some r)] [] (fun zx=> .func (.func 100) #[] #[pp zx 0]) (fun zx=> [bk zx #[.map (some r)] 136]) (fun zx=>(True))
set_option maxRecDepth 100000 in
theorem maps_Keys138_vc (r:Nat):maps_Keys138_A r (fun za zh zv zu zp=>codeW Tryz.prog 4 none 2000 none (bodyOf Tryz.f95) (.reg [.sem [.nw 40],S0] (.reg [S0,S0] (.done)))
    (init za zh) (finW Tryz.prog Tryz.f95 [] [40] (X:=Nat) zv zu zp))=
    (∀b1:Nat,maps_Keys138_Q r (Value.func (.func 100) #[] #[pp b1 0]) (bk b1 #[.map (some r)] 136)):=by kernel_rfl
set_option maxRecDepth 100000 in
theorem maps_Keys138 (r:Nat) :maps_Keys138_A r (fun za zh zv zu zp=>CallT Tryz.prog 95 za zh Nat zv zu zp):=by
  refine call_of (c:=bodyOf Tryz.f95) (n:=4) (fn:=Tryz.f95) Tryz.mixed Tryz.func95 (by kernel_rfl) (by kernel_rfl) (by kernel_rfl) 2000 _ [] [40] rfl rfl (Eq.mpr (maps_Keys138_vc r) ?_)
  intro b1
  exact ⟨b1,trivial,rfl,rfl,trivial⟩
def keys_nan138_C:List Value->List Slot->Ctr:=fun vs hs=>⟨Unit,fun _=> .bool false,fun _=>hs,fun _=>True⟩
abbrev keys_nan138_Q (x:Int) (zv:Value) :Prop:= ∃_:Unit,(True)/\zv= .bool false/\True
abbrev keys_nan138_A (x:Int) (zF:SF Unit):Prop:=zF #[.int .u8 x] [] (fun _=> .bool false) (fun _=> []) (fun _=>True)
set_option maxRecDepth 100000 in
theorem keys_nan138_vc (x:Int):keys_nan138_A x (fun za zh zv zu zp=>codeW Tryz.prog 6 none 2000 none (bodyOf Tryz.f50) (.reg [S0] (.reg [S0,S0, .gen [] (Sx.one (.bool false)),S0] (.done)))
    (init za zh) (finW Tryz.prog Tryz.f50 [] [] (X:=Unit) zv zu zp))=
    ((∃_:Unit,True/\Value.bool (x !=x)= .bool false)/\ ∀_:Unit,(True)->keys_nan138_Q x (Value.bool false)):=by kernel_rfl
set_option maxRecDepth 100000 in
theorem keys_nan138 (x:Int) :keys_nan138_A x (fun za zh zv zu zp=>CallT Tryz.prog 50 za zh Unit zv zu zp):=by
  refine call_of (c:=bodyOf Tryz.f50) (n:=6) (fn:=Tryz.f50) Tryz.mixed Tryz.func50 (by kernel_rfl) (by kernel_rfl) (by kernel_rfl) 2000 _ [] [] rfl rfl (Eq.mpr (keys_nan138_vc x) ?_)
  exact ⟨⟨(),trivial,congrArg Value.bool (bne_self_eq_false _)⟩,fun _=>fun _=>⟨(),trivial,rfl,trivial⟩⟩
def cmp_Compare_u8_C:List Value->List Slot->Ctr:=fun vs hs=>⟨Unit,fun _=> .int .i64 (cmpI (ci (varg vs 1)) (ci (varg vs 2))),fun _=>hs,fun _=>True⟩
abbrev cmp_Compare_u8_Q (x y:Int) (zv:Value) :Prop:= ∃_:Unit,(True)/\zv= .int .i64 (cmpI x y)/\True
abbrev cmp_Compare_u8_A (x y:Int) (zF:SF Unit):Prop:=zF #[.int .u8 x, .int .u8 y] [] (fun _=> .int .i64 (cmpI x y)) (fun _=> []) (fun _=>True)
set_option maxRecDepth 100000 in
theorem cmp_Compare_u8_vc (x y:Int):cmp_Compare_u8_A x y (fun za zh zv zu zp=>codeW Tryz.prog 20 none 2000 none (bodyOf Tryz.f75) (.reg [S0] (.reg [S0, .callr [] keys_nan138_C,S0] (.reg [S0, .callr [] keys_nan138_C,S0] (.reg [S0] (.condF (.reg [S0] (.condF (.reg [S0,S0,S0] (.cond (.reg [S0] (.done)) (.reg [S0,S0,S0] (.cond (.reg [S0] (.done)) (.reg [S0] (.done)))))))))))))
    (init za zh) (finW Tryz.prog Tryz.f75 [] [] (X:=Unit) zv zu zp))=
    (callQr Tryz.prog 50 #[.int .u8 x] [] Unit (fun _=> .bool false) (fun _=>True) (fun _=>callQr Tryz.prog 50 #[.int .u8 y] [] Unit (fun _=> .bool false) (fun _=>True) (fun _=>(false=false)/\(false=false)/\((decide (x<y))=true->cmp_Compare_u8_Q x y (Value.int .i64 (-1)))/\((decide (x<y))=false->((decide (x>y))=true->cmp_Compare_u8_Q x y (Value.int .i64 1))/\((decide (x>y))=false->cmp_Compare_u8_Q x y (Value.int .i64 0)))))):=by kernel_rfl
set_option maxRecDepth 100000 in
theorem cmp_Compare_u8 (x y:Int) :cmp_Compare_u8_A x y (fun za zh zv zu zp=>CallT Tryz.prog 75 za zh Unit zv zu zp):=by
  refine call_of (c:=bodyOf Tryz.f75) (n:=20) (fn:=Tryz.f75) Tryz.mixed Tryz.func75 (by kernel_rfl) (by kernel_rfl) (by kernel_rfl) 2000 _ [] [] rfl rfl (Eq.mpr (cmp_Compare_u8_vc x y) ?_)
  refine callQr_mk (keys_nan138 x) (⟨(),trivial⟩) fun _ _=>callQr_mk (keys_nan138 y) (⟨(),trivial⟩) fun _ _=>⟨rfl,⟨rfl,⟨fun h1=> ?_,fun h1=> ?_⟩⟩⟩
  · refine ⟨(),trivial,?_,trivial⟩
    unfold cmpI
    simp only [decide_eq_true_eq,decide_eq_false_iff_not,gt_iff_lt,bne_iff_ne,bne_eq_false_iff_eq,ne_eq] at h1
    simp only [h1,if_true,if_false,ite_true,ite_false]
  refine ⟨fun h2=> ?_,fun h2=> ?_⟩
  · refine ⟨(),trivial,?_,trivial⟩
    unfold cmpI
    simp only [decide_eq_true_eq,decide_eq_false_iff_not,gt_iff_lt,bne_iff_ne,bne_eq_false_iff_eq,ne_eq] at h1 h2
    simp only [h1,h2,if_true,if_false,ite_true,ite_false]
  refine ⟨(),trivial,?_,trivial⟩
  unfold cmpI
  simp only [decide_eq_true_eq,decide_eq_false_iff_not,gt_iff_lt,bne_iff_ne,bne_eq_false_iff_eq,ne_eq] at h1 h2
  simp only [h1,h2,if_true,if_false,ite_true,ite_false]
abbrev cmp_Compare_u8_K (x y:Int) (KK:Unit->Prop):Prop:=cmp_Compare_u8_A x y (fun za zh zv zu zp=>callQr Tryz.prog 75 za zh Unit zv zp KK)
theorem cmp_Compare_u8_m (x y:Int) {KK:Unit->Prop} (kont:KK ()) :cmp_Compare_u8_K x y KK:=callQr_mk (cmp_Compare_u8 x y) (⟨(),trivial⟩) fun _ _=>kont
def cmp_Or_int2_C:List Value->List Slot->Ctr:=fun vs hs=>⟨Unit,fun _=> .int .i64 (orI (ci (scell (sarg hs 0) 0)) (ci (scell (sarg hs 0) 1))),fun _=>hs,fun _=>True⟩
abbrev cmp_Or_int2_Q (c:Nat) (x y:Int) (zv:Value) (zs0:Slot):Prop:= ∃_:Unit,(True)/\zv= .int .i64 (orI x y)/\zs0=bk c #[.int .i64 x, .int .i64 y] 3/\True
abbrev cmp_Or_int2_A (c:Nat) (x y:Int) (zF:SF Unit):Prop:=zF #[.slice (some ⟨c,0,none⟩) 2 2] [bk c #[.int .i64 x, .int .i64 y] 3] (fun _=> .int .i64 (orI x y)) (fun _=> [bk c #[.int .i64 x, .int .i64 y] 3]) (fun _=>True)
set_option maxRecDepth 100000 in
theorem cmp_Or_int2_vc (c:Nat) (x y:Int):cmp_Or_int2_A c x y (fun za zh zv zu zp=>codeW Tryz.prog 18 none 2000 none (bodyOf Tryz.f74) (.reg [S0] (.reg [S0] (.reg [S0,S0,S0] (.reg [S0] (.condT (.reg [S0, .sem [.rd 0],S0] (.reg [S0,S0,S0] (.cond (.reg [S0,S0] (.done)) (.reg [S0,S0] (.reg [S0] (.condT (.reg [S0, .sem [.rd 0],S0] (.reg [S0,S0,S0] (.cond (.reg [S0,S0] (.done)) (.reg [S0,S0] (.reg [S0] (.condF (.reg [S0,S0] (.done)))))))))))))))))))
    (init za zh) (finW Tryz.prog Tryz.f74 [] [0] (X:=Unit) zv zu zp))=
    ((true=true)/\rdQ 1 c (((x !=(0:Int))=true->cmp_Or_int2_Q c x y (Value.int .i64 x) (bk c #[.int .i64 x, .int .i64 y] 3))/\((x !=(0:Int))=false->(true=true)/\rdQ 1 c (((y !=(0:Int))=true->cmp_Or_int2_Q c x y (Value.int .i64 y) (bk c #[.int .i64 x, .int .i64 y] 3))/\((y !=(0:Int))=false->(false=false)/\cmp_Or_int2_Q c x y (Value.int .i64 0) (bk c #[.int .i64 x, .int .i64 y] 3)))))):=by kernel_rfl
set_option maxRecDepth 100000 in
theorem cmp_Or_int2 (c:Nat) (x y:Int) :cmp_Or_int2_A c x y (fun za zh zv zu zp=>CallT Tryz.prog 74 za zh Unit zv zu zp):=by
  refine call_of (c:=bodyOf Tryz.f74) (n:=18) (fn:=Tryz.f74) Tryz.mixed Tryz.func74 (by kernel_rfl) (by kernel_rfl) (by kernel_rfl) 2000 _ [] [0] rfl rfl (Eq.mpr (cmp_Or_int2_vc c x y) ?_)
  refine ⟨rfl,rdQ_mk 1 _ ⟨fun h1=> ?_,fun h1=> ?_⟩⟩
  · unfold cmp_Or_int2_Q
    have g0:=bne_iff_ne.1 h1
    refine ⟨(),trivial,?_,rfl,trivial⟩
    unfold orI
    simp only [g0,if_true,if_false,ite_true,ite_false]
  refine ⟨rfl,rdQ_mk 1 _ ⟨fun h2=> ?_,fun h2=> ?_⟩⟩
  · unfold cmp_Or_int2_Q
    have g0:=bne_eq_false_iff_eq.1 h1
    have g1:=bne_iff_ne.1 h2
    refine ⟨(),trivial,?_,rfl,trivial⟩
    unfold orI
    simp only [g0,g1,if_true,if_false,ite_true,ite_false]
  refine ⟨rfl,?_⟩
  unfold cmp_Or_int2_Q
  have g0:=bne_eq_false_iff_eq.1 h1
  have g1:=bne_eq_false_iff_eq.1 h2
  refine ⟨(),trivial,?_,rfl,trivial⟩
  unfold orI
  simp only [g0,g1,if_true,if_false,ite_true,ite_false]
abbrev cmp_Or_int2_K (c:Nat) (x y:Int) (KK:Unit->Prop):Prop:=cmp_Or_int2_A c x y (fun za zh zv zu zp=>callQr Tryz.prog 74 za zh Unit zv zp KK)
theorem cmp_Or_int2_m (c:Nat) (x y:Int) {KK:Unit->Prop} (kont:KK ()) :cmp_Or_int2_K c x y KK:=callQr_mk (cmp_Or_int2 c x y) (⟨(),trivial⟩) fun _ _=>kont
def book_ahead_C:List Value->List Slot->Ctr:=fun vs hs=>⟨Unit,fun _=> .bool (ahd ((ci (cell (varg vs 1) 0)),(ci (cell (varg vs 1) 1))) ((ci (cell (varg vs 2) 0)),(ci (cell (varg vs 2) 1)))),fun _=>hs,fun _=>True⟩
abbrev book_ahead_Q (x0 x1 y0 y1:Int) (zv:Value) :Prop:= ∃_:Unit,(True)/\zv= .bool (ahd (x0,x1) (y0,y1))/\True
abbrev book_ahead_A (x0 x1 y0 y1:Int) (zF:SF Unit):Prop:=zF #[.agg #[.int .u8 x0, .int .u8 x1], .agg #[.int .u8 y0, .int .u8 y1]] [] (fun _=> .bool (ahd (x0,x1) (y0,y1))) (fun _=> []) (fun _=>True)
set_option maxRecDepth 100000 in
theorem book_ahead_vc (x0 x1 y0 y1:Int):book_ahead_A x0 x1 y0 y1 (fun za zh zv zu zp=>codeW Tryz.prog 18 none 2000 none (bodyOf Tryz.f48) (.reg [.sem [.nw 0], .sem [.nw 1],S0] (.reg [S0, .sem [.rd 0],S0, .sem [.rd 1], .callr [] cmp_Compare_u8_C,S0, .sem [.rd 0],S0, .sem [.rd 1], .callr [] cmp_Compare_u8_C, .sem [.nw 2], .callr [2] cmp_Or_int2_C,S0,S0] (.done)))
    (init za zh) (finW Tryz.prog Tryz.f48 [] [] (X:=Unit) zv zu zp))=
    (∀b1:Nat,∀b2:Nat,rdQ 1 b1 (rdQ 1 b2 (cmp_Compare_u8_K x0 y0 (fun _=>rdQ 1 b1 (rdQ 1 b2 (cmp_Compare_u8_K x1 y1 (fun _=> ∀b3:Nat,cmp_Or_int2_K b3 (cmpI x0 y0) (cmpI x1 y1) (fun _=>book_ahead_Q x0 x1 y0 y1 (Value.bool (decide ((orI (cmpI x0 y0) (cmpI x1 y1))<(0:Int)))))))))))):=by kernel_rfl
set_option maxRecDepth 100000 in
theorem book_ahead (x0 x1 y0 y1:Int) :book_ahead_A x0 x1 y0 y1 (fun za zh zv zu zp=>CallT Tryz.prog 48 za zh Unit zv zu zp):=by
  refine call_of (c:=bodyOf Tryz.f48) (n:=18) (fn:=Tryz.f48) Tryz.mixed Tryz.func48 (by kernel_rfl) (by kernel_rfl) (by kernel_rfl) 2000 _ [] [] rfl rfl (Eq.mpr (book_ahead_vc x0 x1 y0 y1) ?_)
  intro b1
  intro b2
  exact rdQ_mk 1 _ (rdQ_mk 1 _ (cmp_Compare_u8_m x0 y0 (rdQ_mk 1 _ (rdQ_mk 1 _ (cmp_Compare_u8_m x1 y1 (fun b3=>cmp_Or_int2_m b3 (cmpI x0 y0) (cmpI x1 y1) ⟨(),trivial,rfl,trivial⟩))))))
abbrev book_ahead_K (x0 x1 y0 y1:Int) (KK:Unit->Prop):Prop:=book_ahead_A x0 x1 y0 y1 (fun za zh zv zu zp=>callQr Tryz.prog 48 za zh Unit zv zp KK)
theorem book_ahead_m (x0 x1 y0 y1:Int) {KK:Unit->Prop} (kont:KK ()) :book_ahead_K x0 x1 y0 y1 KK:=callQr_mk (book_ahead x0 x1 y0 y1) (⟨(),trivial⟩) fun _ _=>kont
abbrev keys_cmp138_Q (w0:World) (c b:Nat) (x0 x1 y0 y1:Int) (zv:Value) (zs0:Slot):Prop:= ∃_:Unit,(True)/\zv= .int .i64 (cmp2 (x0,x1) (y0,y1))/\zs0=(old w0)/\True
set_option maxRecDepth 100000 in
theorem keys_cmp138_vc (w0:World) (c b:Nat) (x0 x1 y0 y1:Int):codeW Tryz.prog 22 none 2000 none (bodyOf Tryz.f96) (.reg [.sem [.nw 1], .sem [.nw 2],S0] (.reg [.specr [0] (fun _ hs=>⟨Unit,fun _=>pp b 0,fun _=>hs,fun _=>True⟩),S0,S0, .specr [0] (fun _ hs=>⟨Unit,fun _=> .func (.func 48) #[] #[],fun _=>hs,fun _=>True⟩), .sem [.rd 1, .rd 1], .sem [.rd 2, .rd 2], .callr [] book_ahead_C,S0] (.cond (.reg [S0] (.done)) (.reg [.specr [0] (fun _ hs=>⟨Unit,fun _=>pp b 0,fun _=>hs,fun _=>True⟩),S0,S0, .specr [0] (fun _ hs=>⟨Unit,fun _=> .func (.func 48) #[] #[],fun _=>hs,fun _=>True⟩), .sem [.rd 2, .rd 2], .sem [.rd 1, .rd 1], .callr [] book_ahead_C,S0] (.cond (.reg [S0] (.done)) (.reg [S0] (.done)))))))
    (init #[.agg #[.int .u8 x0, .int .u8 x1], .agg #[.int .u8 y0, .int .u8 y1],pp c 0] [(old w0)]) (finW Tryz.prog Tryz.f96 [] [0] (X:=Unit) (fun _=> .int .i64 (cmp2 (x0,x1) (y0,y1))) (fun _=> [(old w0)]) (fun _=>True))=
    (∀b1:Nat,∀b2:Nat,opQr Tryz.prog (vS (Instr.loadAt 96 (pp c 0))) [(old w0)] Unit (fun _=>pp b 0) (fun _=>True) (fun _=>opQr Tryz.prog (vS (Instr.loadAt 100 (pp b 2))) [(old w0)] Unit (fun _=> .func (.func 48) #[] #[]) (fun _=>True) (fun _=>rdQ 2 b1 (rdQ 2 b2 (book_ahead_K x0 x1 y0 y1 (fun _=>((ahd (x0,x1) (y0,y1))=true->keys_cmp138_Q w0 c b x0 x1 y0 y1 (Value.int .i64 (-1)) (old w0))/\((ahd (x0,x1) (y0,y1))=false->opQr Tryz.prog (vS (Instr.loadAt 96 (pp c 0))) [(old w0)] Unit (fun _=>pp b 0) (fun _=>True) (fun _=>opQr Tryz.prog (vS (Instr.loadAt 100 (pp b 2))) [(old w0)] Unit (fun _=> .func (.func 48) #[] #[]) (fun _=>True) (fun _=>rdQ 2 b2 (rdQ 2 b1 (book_ahead_K y0 y1 x0 x1 (fun _=>((ahd (y0,y1) (x0,x1))=true->keys_cmp138_Q w0 c b x0 x1 y0 y1 (Value.int .i64 1) (old w0))/\((ahd (y0,y1) (x0,x1))=false->keys_cmp138_Q w0 c b x0 x1 y0 y1 (Value.int .i64 0) (old w0)))))))))))))):=by kernel_rfl
set_option maxRecDepth 100000 in
theorem keys_cmp138 (w0:World) (c b:Nat) (x0 x1 y0 y1:Int) (hc1:w0.cell? ⟨c,0,none⟩=some (pp b 0)) (hc2:w0.cell? ⟨b,2,none⟩=some (.func (.func 48) #[] #[])):CallT Tryz.prog 96 #[.agg #[.int .u8 x0, .int .u8 x1], .agg #[.int .u8 y0, .int .u8 y1],pp c 0] [(old w0)] Unit (fun _=> .int .i64 (cmp2 (x0,x1) (y0,y1))) (fun _=> [(old w0)]) (fun _=>True):=by
  refine call_of (c:=bodyOf Tryz.f96) (n:=22) (fn:=Tryz.f96) Tryz.mixed Tryz.func96 (by kernel_rfl) (by kernel_rfl) (by kernel_rfl) 2000 _ [] [0] rfl rfl (Eq.mpr (keys_cmp138_vc w0 c b x0 x1 y0 y1) ?_)
  intro b1
  intro b2
  refine opQr_mk (xold1 Tryz.isAgg96 hc1) (⟨(),trivial⟩) fun _ _=>opQr_mk (xold1 Tryz.isAgg100 hc2) (⟨(),trivial⟩) fun _ _=>rdQ_mk 2 _ (rdQ_mk 2 _ (book_ahead_m x0 x1 y0 y1 ⟨fun h1=> ?_,fun h1=> ?_⟩))
  · refine ⟨(),trivial,?_,rfl,trivial⟩
    unfold cmp2
    simp only [h1,if_true,if_false,ite_true,ite_false,Bool.false_eq_true]
  refine opQr_mk (xold1 Tryz.isAgg96 hc1) (⟨(),trivial⟩) fun _ _=>opQr_mk (xold1 Tryz.isAgg100 hc2) (⟨(),trivial⟩) fun _ _=>rdQ_mk 2 _ (rdQ_mk 2 _ (book_ahead_m y0 y1 x0 x1 ⟨fun h2=> ?_,fun h2=> ?_⟩))
  · refine ⟨(),trivial,?_,rfl,trivial⟩
    unfold cmp2
    simp only [h1,h2,if_true,if_false,ite_true,ite_false,Bool.false_eq_true]
  refine ⟨(),trivial,?_,rfl,trivial⟩
  unfold cmp2
  simp only [h1,h2,if_true,if_false,ite_true,ite_false,Bool.false_eq_true]
def Tryz.sortK99_ren:Go.Shelf.Ren:=⟨fun | 6=>99 | 15=>103 | 14=>102 | 28=>112 | 29=>113 | 20=>104 | 21=>105 | 22=>106 | 23=>107 | 24=>108 | 25=>109 | 26=>110 | 27=>111 | 46=>114 | 47=>115 | 48=>116 | 49=>117 | 50=>118 | 57=>119 | n=>n,fun | 22=>153 | 24=>99 | 25=>161 | 3=>3 | 39=>168 | 0=>0 | 53=>85 | 55=>27 | 4=>4 | 46=>171 | 45=>170 | 50=>175 | 5=>5 | 9=>9 | 66=>179 | 70=>183 | 76=>185 | 77=>186 | n=>n,fun | n=>n⟩
theorem Tryz.sortK99:Go.Proofs.SlLaysF0.n6 Tryz.prog Tryz.sortK99_ren:= {
  mixed:=by kernel_rfl
  f6:=⟨Tryz.f99.name,by decide,Tryz.func99.trans (congrArg some (by kernel_rfl))⟩
  f14:=⟨Tryz.f102.name,by decide,Tryz.func102.trans (congrArg some (by kernel_rfl))⟩
  f15:=Tryz.func103.trans (congrArg some (by kernel_rfl))
  f20:=⟨Tryz.f104.name,by decide,Tryz.func104.trans (congrArg some (by kernel_rfl))⟩
  f21:=⟨Tryz.f105.name,by decide,Tryz.func105.trans (congrArg some (by kernel_rfl))⟩
  f22:=⟨Tryz.f106.name,by decide,Tryz.func106.trans (congrArg some (by kernel_rfl))⟩
  f23:=⟨Tryz.f107.name,by decide,Tryz.func107.trans (congrArg some (by kernel_rfl))⟩
  f24:=⟨Tryz.f108.name,by decide,Tryz.func108.trans (congrArg some (by kernel_rfl))⟩
  f25:=⟨Tryz.f109.name,by decide,Tryz.func109.trans (congrArg some (by kernel_rfl))⟩
  f26:=⟨Tryz.f110.name,by decide,Tryz.func110.trans (congrArg some (by kernel_rfl))⟩
  f27:=⟨Tryz.f111.name,by decide,Tryz.func111.trans (congrArg some (by kernel_rfl))⟩
  f28:=Tryz.func112.trans (congrArg some (by kernel_rfl))
  f29:=Tryz.func113.trans (congrArg some (by kernel_rfl))
  f46:=⟨Tryz.f114.name,by decide,Tryz.func114.trans (congrArg some (by kernel_rfl))⟩
  f47:=Tryz.func115.trans (congrArg some (by kernel_rfl))
  f48:=Tryz.func116.trans (congrArg some (by kernel_rfl))
  f49:=⟨Tryz.f117.name,by decide,Tryz.func117.trans (congrArg some (by kernel_rfl))⟩
  f50:=⟨Tryz.f118.name,by decide,Tryz.func118.trans (congrArg some (by kernel_rfl))⟩
  f57:=⟨Tryz.f119.name,by decide,Tryz.func119.trans (congrArg some (by kernel_rfl))⟩
  t0:=Tryz.underlying0
  a0:=Tryz.isAgg0
  z0:=Tryz.sizeOf0
  v0:=Tryz.zeroValue0
  t3:=Tryz.underlying3
  a3:=Tryz.isAgg3
  z3:=Tryz.sizeOf3
  v3:=Tryz.zeroValue3
  t4:=Tryz.underlying4
  a4:=Tryz.isAgg4
  z4:=Tryz.sizeOf4
  v4:=Tryz.zeroValue4
  t5:=Tryz.underlying5
  a5:=Tryz.isAgg5
  z5:=Tryz.sizeOf5
  v5:=Tryz.zeroValue5
  t9:=Tryz.underlying9
  a9:=Tryz.isAgg9
  z9:=Tryz.sizeOf9
  v9:=Tryz.zeroValue9
  t22:=Tryz.underlying153
  a22:=Tryz.isAgg153
  z22:=Tryz.sizeOf153
  v22:=Tryz.zeroValue153
  t25:=Tryz.underlying161
  a25:=Tryz.isAgg161
  z25:=Tryz.sizeOf161
  v25:=Tryz.zeroValue161
  t39:=Tryz.underlying168
  a39:=Tryz.isAgg168
  z39:=Tryz.sizeOf168
  v39:=Tryz.zeroValue168
  t45:=Tryz.underlying170
  a45:=Tryz.isAgg170
  z45:=Tryz.sizeOf170
  v45:=Tryz.zeroValue170
  t46:=Tryz.underlying171
  a46:=Tryz.isAgg171
  z46:=Tryz.sizeOf171
  v46:=Tryz.zeroValue171
  t50:=Tryz.underlying175
  a50:=Tryz.isAgg175
  z50:=Tryz.sizeOf175
  v50:=Tryz.zeroValue175
  t53:=Tryz.underlying85
  a53:=Tryz.isAgg85
  z53:=Tryz.sizeOf85
  v53:=Tryz.zeroValue85
  t55:=Tryz.underlying27
  a55:=Tryz.isAgg27
  z55:=Tryz.sizeOf27
  v55:=Tryz.zeroValue27
  t66:=Tryz.underlying179
  a66:=Tryz.isAgg179
  z66:=Tryz.sizeOf179
  v66:=Tryz.zeroValue179
  t70:=Tryz.underlying183
  a70:=Tryz.isAgg183
  z70:=Tryz.sizeOf183
  v70:=Tryz.zeroValue183
  t76:=Tryz.underlying185
  a76:=Tryz.isAgg185
  z76:=Tryz.sizeOf185
  v76:=Tryz.zeroValue185
  t77:=Tryz.underlying186
  a77:=Tryz.isAgg186
  z77:=Tryz.sizeOf186
  v77:=Tryz.zeroValue186 }
abbrev keys_SortedFunc138_Q (r c c2 b bj:Nat) (m:KV) (zv:Value) (zs0:Slot) (zs1:Slot) (zs2:Slot) (zs3:Slot) (zs4:Slot):Prop:= ∃zx:RK 2,(KeysOf2 m (vals zx.1))/\zv=sv zx.1/\zs0=bk c #[.map (some r)] 136/\zs1=(mo r m)/\zs2=bk c2 #[pp b 0] 96/\zs3= .blk b (.cells #[.map (some r),pp bj 0, .func (.func 48) #[] #[]] 138 (0,0))/\zs4=(sk 99 zx.1)/\True
set_option maxRecDepth 100000 in
theorem keys_SortedFunc138_vc (r c c2 b bj:Nat) (m:KV):codeW Tryz.prog 12 none 2000 none (bodyOf Tryz.f94) (.reg [S0] (.reg [S0, .callw [0,1] [0,1,40] keys_Collect138_C,S0] (.reg [S0,S0, .callw [40,2,3] [40,2,3] (fun vs hs=>⟨RK 2,fun _=>undef,fun zx=> [sk 99 zx.1,sarg hs 1,sarg hs 2],fun zx=>sv zx.1=varg vs 1/\(vals zx.1).Perm (kvals 2 (varg vs 1) (sarg hs 0))/\Sorted2 (vals zx.1)⟩)] (.reg [S0,S0] (.done)))))
    (init #[.func (.func 100) #[] #[pp c 0], .func (.func 96) #[] #[pp c2 0]] [bk c #[.map (some r)] 136,(mo r m),bk c2 #[pp b 0] 96, .blk b (.cells #[.map (some r),pp bj 0, .func (.func 48) #[] #[]] 138 (0,0))]) (finW Tryz.prog Tryz.f94 [] [0,1,2,3,40] (X:=RK 2) (fun zx=>sv zx.1) (fun zx=> [bk c #[.map (some r)] 136,(mo r m),bk c2 #[pp b 0] 96, .blk b (.cells #[.map (some r),pp bj 0, .func (.func 48) #[] #[]] 138 (0,0)),(sk 99 zx.1)]) (fun zx=>(KeysOf2 m (vals zx.1))))=
    (callQ Tryz.prog 98 #[.func (.func 100) #[] #[pp c 0]] [bk c #[.map (some r)] 136,(mo r m)] (RK 2) (fun zx=>sv zx.1) (fun zx=> [bk c #[.map (some r)] 136,(mo r m),(sk 99 zx.1)]) (fun zx=>(vals zx.1).Perm (m.map (·.1))) (fun x1=>callQ Tryz.prog 99 #[sv x1.1, .func (.func 96) #[] #[pp c2 0]] [(sk 99 x1.1),bk c2 #[pp b 0] 96, .blk b (.cells #[.map (some r),pp bj 0, .func (.func 48) #[] #[]] 138 (0,0))] (RK 2) (fun zx=> .tuple #[]) (fun zx=> [(sk 99 zx.1),bk c2 #[pp b 0] 96, .blk b (.cells #[.map (some r),pp bj 0, .func (.func 48) #[] #[]] 138 (0,0))]) (fun zx=>sv zx.1=sv x1.1/\(vals zx.1).Perm (kvals 2 (sv x1.1) (sk 99 x1.1))/\Sorted2 (vals zx.1)) (fun x2=>keys_SortedFunc138_Q r c c2 b bj m (sv x1.1) (bk c #[.map (some r)] 136) (mo r m) (bk c2 #[pp b 0] 96) (Slot.blk b (.cells #[.map (some r),pp bj 0, .func (.func 48) #[] #[]] 138 (0,0))) (sk 99 x2.1)))):=by kernel_rfl
set_option maxRecDepth 100000 in
theorem keys_SortedFunc138 (r c c2 b bj:Nat) (m:KV) (hk:KOK Tryz.mk138 m) (hl:m.length<=1048576):CallT Tryz.prog 94 #[.func (.func 100) #[] #[pp c 0], .func (.func 96) #[] #[pp c2 0]] [bk c #[.map (some r)] 136,(mo r m),bk c2 #[pp b 0] 96, .blk b (.cells #[.map (some r),pp bj 0, .func (.func 48) #[] #[]] 138 (0,0))] (RK 2) (fun zx=>sv zx.1) (fun zx=> [bk c #[.map (some r)] 136,(mo r m),bk c2 #[pp b 0] 96, .blk b (.cells #[.map (some r),pp bj 0, .func (.func 48) #[] #[]] 138 (0,0)),(sk 99 zx.1)]) (fun zx=>(KeysOf2 m (vals zx.1))):=by
  refine call_of (c:=bodyOf Tryz.f94) (n:=12) (fn:=Tryz.f94) Tryz.mixed Tryz.func94 (by kernel_rfl) (by kernel_rfl) (by kernel_rfl) 2000 _ [] [0,1,2,3,40] rfl rfl (Eq.mpr (keys_SortedFunc138_vc r c c2 b bj m) ?_)
  refine callQ_mk (keys_Collect138 r c m (by assumption) (by assumption)) (wit_permK (key_pairs138 (by assumption))) fun x1 h1=>callQ_mk (sort_row2 Tryz.sortK99 (fun w=>Tryz.isAgg99 w) (fun w=>Tryz.sizeOf99 w) rfl (enterOK (c:=bodyOf Tryz.f99) Tryz.func99 (by kernel_rfl) (by kernel_rfl)) (enterOK (c:=bodyOf Tryz.f96) Tryz.func96 (by kernel_rfl) (by kernel_rfl)) (fun w0 h1 h2 x0 x1 y0 y1=>keys_cmp138 w0 c2 b x0 x1 y0 y1 h1 h2) (fun v hv=>key_pair138 hk (h1.mem_iff.1 hv)) (by have:=h1.length_eq;simp at this;omega)) (sort_wit2 (x1) (fun v hv=>key_pair138 hk (h1.mem_iff.1 hv))) fun x2 h2=> ?_
  rw [kvals_eq] at h2
  exact ⟨x2,keysOf2_of hk.once (key_pairs138 hk) (h2.2.1.trans h1) h2.2.2,h2.1.symm,rfl,rfl,rfl,rfl,rfl,trivial⟩
def Tryz.clone91_ren:Go.Shelf.Ren:=⟨fun | 5=>91 | 7=>97 | n=>n,fun | 23=>136 | 25=>99 | 3=>29 | 4=>4 | 20=>20 | n=>n,fun | n=>n⟩
theorem Tryz.clone91:Go.Proofs.SlLaysW.n5 Tryz.prog Tryz.clone91_ren:= {
  mixed:=by kernel_rfl
  f5:=⟨Tryz.f91.name,by decide,Tryz.func91.trans (congrArg some (by kernel_rfl))⟩
  f7:=Tryz.func97.trans (congrArg some (by kernel_rfl))
  t4:=Tryz.underlying4
  a4:=Tryz.isAgg4
  z4:=Tryz.sizeOf4
  v4:=Tryz.zeroValue4
  t20:=Tryz.underlying20
  a20:=Tryz.isAgg20
  z20:=Tryz.sizeOf20
  v20:=Tryz.zeroValue20
  t23:=Tryz.underlying136
  a23:=Tryz.isAgg136
  z23:=Tryz.sizeOf136
  v23:=Tryz.zeroValue136 }
def keys_Keys_raw138_C:List Value->List Slot->Ctr:=fun vs hs=>⟨RK 2,fun zx=>sv zx.1,fun zx=> [(sk 99 zx.1)],fun zx=>KeysOf2 (skv (sarg hs 1)) (vals zx.1)⟩
abbrev keys_Keys_raw138_Q (b r bj:Nat) (m:KV) (zv:Value) (zs0:Slot) (zs1:Slot) (zs2:Slot):Prop:= ∃zx:RK 2,(KeysOf2 m (vals zx.1))/\zv=sv zx.1/\zs0= .blk b (.cells #[.map (some r),pp bj 0, .func (.func 48) #[] #[]] 138 (0,0))/\zs1=(mo r m)/\zs2=(sk 99 zx.1)/\True
abbrev keys_Keys_raw138_A (b r bj:Nat) (m:KV) (zF:SF (RK 2)):Prop:=zF #[pp b 0] [.blk b (.cells #[.map (some r),pp bj 0, .func (.func 48) #[] #[]] 138 (0,0)),(mo r m)] (fun zx=>sv zx.1) (fun zx=> [.blk b (.cells #[.map (some r),pp bj 0, .func (.func 48) #[] #[]] 138 (0,0)),(mo r m),(sk 99 zx.1)]) (fun zx=>(KeysOf2 m (vals zx.1)))
set_option maxRecDepth 100000 in
theorem keys_Keys_raw138_vc (b r bj:Nat) (m:KV):keys_Keys_raw138_A b r bj m (fun za zh zv zu zp=>codeW Tryz.prog 10 none 2000 none (bodyOf Tryz.f90) (.reg [.sem [.nw 40],S0] (.reg [.sem [.rd 40],S0,S0, .sem [.rd 0], .callw [] [41] maps_Keys138_C,S0, .callw [41,1,40,0] [41,1,40,0,45] (fun vs hs=>⟨RK 2,fun zx=>sv zx.1,fun zx=>hs++ [sk 99 zx.1],fun zx=>KeysOf2 (skv (sarg hs 1)) (vals zx.1)⟩),S0] (.done)))
    (init za zh) (finW Tryz.prog Tryz.f90 [] [0,1,45] (X:=RK 2) zv zu zp))=
    (∀b1:Nat,rdQ 1 b1 (rdQ 1 b (callQ Tryz.prog 95 #[.map (some r)] [] Nat (fun zx=> .func (.func 100) #[] #[pp zx 0]) (fun zx=> [bk zx #[.map (some r)] 136]) (fun zx=>True) (fun x2=>callQ Tryz.prog 94 #[.func (.func 100) #[] #[pp x2 0], .func (.func 96) #[] #[pp b1 0]] [bk x2 #[.map (some r)] 136,(mo r m),bk b1 #[pp b 0] 96, .blk b (.cells #[.map (some r),pp bj 0, .func (.func 48) #[] #[]] 138 (0,0))] (RK 2) (fun zx=>sv zx.1) (fun zx=> [bk x2 #[.map (some r)] 136,(mo r m),bk b1 #[pp b 0] 96, .blk b (.cells #[.map (some r),pp bj 0, .func (.func 48) #[] #[]] 138 (0,0)),(sk 99 zx.1)]) (fun zx=>KeysOf2 m (vals zx.1)) (fun x3=>keys_Keys_raw138_Q b r bj m (sv x3.1) (Slot.blk b (.cells #[.map (some r),pp bj 0, .func (.func 48) #[] #[]] 138 (0,0))) (mo r m) (sk 99 x3.1)))))):=by kernel_rfl
set_option maxRecDepth 100000 in
theorem keys_Keys_raw138 (b r bj:Nat) (m:KV) (hk:KOK Tryz.mk138 m) (hl:m.length<=1048576):keys_Keys_raw138_A b r bj m (fun za zh zv zu zp=>CallT Tryz.prog 90 za zh (RK 2) zv zu zp):=by
  refine call_of (c:=bodyOf Tryz.f90) (n:=10) (fn:=Tryz.f90) Tryz.mixed Tryz.func90 (by kernel_rfl) (by kernel_rfl) (by kernel_rfl) 2000 _ [] [0,1,45] rfl rfl (Eq.mpr (keys_Keys_raw138_vc b r bj m) ?_)
  intro b1
  exact rdQ_mk 1 _ (rdQ_mk 1 _ (callQ_mk (maps_Keys138 r) (⟨0,trivial⟩) fun x2 h1=>callQ_mk (keys_SortedFunc138 r x2 b1 b bj m hk hl) (keysOf2_wit (key_pairs138 hk) hk.once) fun x3 h2=>⟨x3,h2,rfl,rfl,rfl,rfl,trivial⟩))
def maps_Clone138_C:List Value->List Slot->Ctr:=fun vs hs=>⟨Nat,fun zx=> .map (some zx),fun zx=> [(mo zx (skv (sarg hs 0)))],fun zx=>True⟩
theorem maps_Clone138 (r:Nat) (m:KV) :CallT Tryz.prog 91 #[.map (some r)] [(mo r m)] Nat (fun zx=> .map (some zx)) (fun zx=> [(mo r m),(mo zx m)]) (fun zx=>(True)):=clone_map Tryz.clone91 rfl (enterOK (c:=bodyOf Tryz.f91) Tryz.func91 (by kernel_rfl) (by kernel_rfl))
abbrev keys_All_raw138_Q (b r bj:Nat) (m:KV) (zv:Value) (zs0:Slot) (zs1:Slot) (zs2:Slot) (zs3:Slot) (zs4:Slot) (zs5:Slot):Prop:= ∃zx:Nat×Nat×Nat×RK 2,(KeysOf2 m (vals zx.2.2.2.1))/\zv= .func (.func 92) #[] #[pp zx.1 0,pp zx.2.1 0]/\zs0= .blk b (.cells #[.map (some r),pp bj 0, .func (.func 48) #[] #[]] 138 (0,0))/\zs1=(mo r m)/\zs2=bk zx.1 #[sv zx.2.2.2.1] 153/\zs3=(sk 99 zx.2.2.2.1)/\zs4=bk zx.2.1 #[.map (some zx.2.2.1)] 136/\zs5=(mo zx.2.2.1 m)/\True
abbrev keys_All_raw138_A (b r bj:Nat) (m:KV) (zF:SF (Nat×Nat×Nat×RK 2)):Prop:=zF #[pp b 0] [.blk b (.cells #[.map (some r),pp bj 0, .func (.func 48) #[] #[]] 138 (0,0)),(mo r m)] (fun zx=> .func (.func 92) #[] #[pp zx.1 0,pp zx.2.1 0]) (fun zx=> [.blk b (.cells #[.map (some r),pp bj 0, .func (.func 48) #[] #[]] 138 (0,0)),(mo r m),bk zx.1 #[sv zx.2.2.2.1] 153,(sk 99 zx.2.2.2.1),bk zx.2.1 #[.map (some zx.2.2.1)] 136,(mo zx.2.2.1 m)]) (fun zx=>(KeysOf2 m (vals zx.2.2.2.1)))
set_option maxRecDepth 100000 in
theorem keys_All_raw138_vc (b r bj:Nat) (m:KV):keys_All_raw138_A b r bj m (fun za zh zv zu zp=>codeW Tryz.prog 13 none 2000 none (bodyOf Tryz.f85) (.reg [S0] (.reg [S0, .calln [0,1] [52] keys_Keys_raw138_C,S0,S0,S0, .sem [.rd 0], .calln [1] [53] maps_Clone138_C, .sem [.nw 50], .sem [.nw 51], .specw [50] [50] F_put, .sem [.wr 51]] (.reg [S0,S0] (.done))))
    (init za zh) (finW Tryz.prog Tryz.f85 [] [0,1,50,52,51,53] (X:=Nat×Nat×Nat×RK 2) zv zu zp))=
    (callQ Tryz.prog 90 #[pp b 0] [.blk b (.cells #[.map (some r),pp bj 0, .func (.func 48) #[] #[]] 138 (0,0)),(mo r m)] (RK 2) (fun zx=>sv zx.1) (fun zx=> [.blk b (.cells #[.map (some r),pp bj 0, .func (.func 48) #[] #[]] 138 (0,0)),(mo r m),(sk 99 zx.1)]) (fun zx=>KeysOf2 m (vals zx.1)) (fun x1=>rdQ 1 b (callQ Tryz.prog 91 #[.map (some r)] [(mo r m)] Nat (fun zx=> .map (some zx)) (fun zx=> [(mo r m),(mo zx m)]) (fun zx=>True) (fun x2=> ∀b3:Nat,∀b4:Nat,opQ Tryz.prog (skS (Instr.storeAt 153 (pp b3 0) (sv x1.1))) [bk b3 #[.slice none 0 0] 153] Unit (fun _=> .tuple #[]) (fun _=> [bk b3 #[sv x1.1] 153]) (fun _=>True) (fun _=>rdQ 1 b4 (keys_All_raw138_Q b r bj m (Value.func (.func 92) #[] #[pp b3 0,pp b4 0]) (Slot.blk b (.cells #[.map (some r),pp bj 0, .func (.func 48) #[] #[]] 138 (0,0))) (mo r m) (bk b3 #[sv x1.1] 153) (sk 99 x1.1) (bk b4 #[.map (some x2)] 136) (mo x2 m))))))):=by kernel_rfl
set_option maxRecDepth 100000 in
theorem keys_All_raw138 (b r bj:Nat) (m:KV) (hk:KOK Tryz.mk138 m) (hl:m.length<=1048576):keys_All_raw138_A b r bj m (fun za zh zv zu zp=>CallT Tryz.prog 85 za zh (Nat×Nat×Nat×RK 2) zv zu zp):=by
  refine call_of (c:=bodyOf Tryz.f85) (n:=13) (fn:=Tryz.f85) Tryz.mixed Tryz.func85 (by kernel_rfl) (by kernel_rfl) (by kernel_rfl) 2000 _ [] [0,1,50,52,51,53] rfl rfl (Eq.mpr (keys_All_raw138_vc b r bj m) ?_)
  exact callQ_mk (keys_Keys_raw138 b r bj m (hk) (hl)) (keysOf2_wit (key_pairs138 hk) hk.once) fun x1 h1=>rdQ_mk 1 _ (callQ_mk (maps_Clone138 r m) (⟨0,trivial⟩) fun x2 h2=>fun b3=>fun b4=>opQ_mk (xputv (b:=b3) (cs:= #[.slice none 0 0]) (ty:=153) (te:=153) (fun w=>by kernel_rfl) 0 (sv x1.1) (cells_sv _) (one_sv _) (by show 0<1;decide)) (⟨(),trivial⟩) fun _ _=>rdQ_mk 1 _ ⟨(b3,b4,x2,x1),h1,rfl,rfl,rfl,rfl,rfl,rfl,rfl,trivial⟩)
def keys_All138_C:List Value->List Slot->Ctr:=fun vs hs=>⟨Nat×Nat×Nat×RK 2,fun zx=> .func (.func 92) #[] #[pp zx.1 0,pp zx.2.1 0],fun zx=> [bk zx.1 #[sv zx.2.2.2.1] 153,(sk 99 zx.2.2.2.1),bk zx.2.1 #[.map (some zx.2.2.1)] 136,(mo zx.2.2.1 (skv (sarg hs 0)))],fun zx=>KeysOf2 (skv (sarg hs 0)) (vals zx.2.2.2.1)⟩
theorem keys_All138 (b bj:Nat) (m:KV) (hi:PairKeys m) (hl:m.length<=1048576):CallT Tryz.prog 85 #[.pointer (some ⟨b,0,none⟩)] [(mS Tryz.mk138 b bj m)] (Nat×Nat×Nat×RK 2) (fun zx=> .func (.func 92) #[] #[.pointer (some ⟨zx.1,0,none⟩), .pointer (some ⟨zx.2.1,0,none⟩)]) (fun zx=> [(mS Tryz.mk138 b bj m), .blk zx.1 (.cells #[sv zx.2.2.2.1] 153 (0,0)),(sk 99 zx.2.2.2.1), .blk zx.2.1 (.cells #[.map (some zx.2.2.1)] 136 (0,0)),(mo zx.2.2.1 m)]) (fun zx=>(KeysOf2 m (vals zx.2.2.2.1))):=by
  refine mS_call (m' :=fun _=>m) (us:=fun x:Nat×Nat×Nat×RK 2=> [.blk x.1 (.cells #[sv x.2.2.2.1] 153 (0,0)),(sk 99 x.2.2.2.1), .blk x.2.1 (.cells #[.map (some x.2.2.1)] 136 (0,0)),(mo x.2.2.1 m)]) (enterOK (c:=bodyOf Tryz.f85) Tryz.func85 (by kernel_rfl) (by kernel_rfl)) (fun r hk=> ?_) (fun _ _ h=>h)
  exact keys_All_raw138 b r bj m hk hl
abbrev keys_AllX0_138_Q (l c1 c2 n:Nat) (x:RK 2) (m:KV) (T:Nat->Slot) (S:Slot) (zv:Value) (zs0:Slot) (zs1:Slot) (zs2:Slot) (zs3:Slot) (zs4:Slot):Prop:= ∃zx:Bool,(True)/\zv= .tuple #[]/\zs0=bk c1 #[sv x.1] 153/\zs1=(sk 99 x.1)/\zs2=bk c2 #[.map (some n)] 136/\zs3=(mo n m)/\zs4=(bif zx then T (vals x.1).length else S)/\True
set_option maxRecDepth 100000 in
theorem keys_AllX0_138_vc (l c1 c2 n:Nat) (x:RK 2) (m:KV) (T:Nat->Slot) (S:Slot):codeW Tryz.prog 20 none 2000 none (bodyOf Tryz.f92) (.reg [.sem [.rd 0], .eq (f_len),S0] (.inv Nat (fun zx=> [(0, .func (.yield l) #[] #[]),(1,pp c1 0),(2,pp c2 0),(6,sv x.1),(7, .int .i64 ((vlen (sv x.1):Nat):Int)),(8, .int .i64 ((zx:Nat):Int))]) (fun zx=> [(0,bk c1 #[sv x.1] 153),(1,(sk 99 x.1)),(2,bk c2 #[.map (some n)] 136),(3,(mo n m)),(4,(T zx))]) (fun zx=>zx<=(vals x.1).length) (fun zx=>(vals x.1).length - zx) (fun x1=> .reg [S0] (.cond (.reg [.eq (f_idxK 2), .specr [1] (F_getK 2 tV), .sem [.nw 5], .sem [.wr 5, .wr 5]] (.reg [S0, .sem [.rd 5, .rd 5], .sem [.rd 2], .sem [.rd 5, .rd 5], .specr [3] (fun vs hs=>⟨Unit,fun _=>((mget m (varg vs 1)).getD (vI 0)),fun _=>hs,fun _=>True⟩), .callw [4] [4] (fun _ _=>⟨Bool,fun b=> .bool b,fun b=> [bif b then T (x1+1) else S],fun _=>True⟩),S0] (.cond (.done) (.reg [S0,S0] (.done))))) (.done)))))
    (init #[.func (.yield l) #[] #[],pp c1 0,pp c2 0] [bk c1 #[sv x.1] 153,(sk 99 x.1),bk c2 #[.map (some n)] 136,(mo n m),(T 0)]) (finW Tryz.prog Tryz.f92 [] [0,1,2,3,4] (X:=Bool) (fun zx=> .tuple #[]) (fun zx=> [bk c1 #[sv x.1] 153,(sk 99 x.1),bk c2 #[.map (some n)] 136,(mo n m),(bif zx then T (vals x.1).length else S)]) (fun zx=>(True)))=
    (rdQ 1 c1 ((PureRun Tryz.prog (vS (Builtin.len_ #[153] 3 #[sv x.1])) (.int .i64 ((vlen (sv x.1):Nat):Int)))/\(∃zx:Nat,(zx<=(vals x.1).length)/\Value.func (.yield l) #[] #[]= .func (.yield l) #[] #[]/\pp c1 0=pp c1 0/\pp c2 0=pp c2 0/\sv x.1=sv x.1/\Value.int .i64 ((vlen (sv x.1):Nat):Int)= .int .i64 ((vlen (sv x.1):Nat):Int)/\Value.int .i64 0= .int .i64 ((zx:Nat):Int)/\bk c1 #[sv x.1] 153=bk c1 #[sv x.1] 153/\(sk 99 x.1)=(sk 99 x.1)/\bk c2 #[.map (some n)] 136=bk c2 #[.map (some n)] 136/\(mo n m)=(mo n m)/\(T 0)=(T zx)/\True)/\ ∀x1:Nat,∀jx1:Nat->Value,(x1<=(vals x.1).length)->((decide (((x1:Nat):Int)<((vlen (sv x.1):Nat):Int)))=true->(PureRun Tryz.prog (vS (Instr.indexAt 153 (sv x.1) (.int .i64 ((x1:Nat):Int)))) (.pointer (some ⟨(vblk (sv x.1)),(Int.toNat ((x1:Nat):Int)*2),none⟩)))/\opQr Tryz.prog (vS (Instr.loadAt 99 (.pointer (some ⟨(vblk (sv x.1)),(Int.toNat ((x1:Nat):Int)*2),none⟩)))) [(sk 99 x.1)] (Int×Int) (fun zx=> .agg #[.int .u8 zx.1, .int .u8 zx.2]) (fun zx=>rdK 2 (scells (sk 99 x.1)) (Int.toNat ((x1:Nat):Int)*2)=tV zx) (fun x2=> ∀b3:Nat,rdQ 2 b3 (rdQ 2 b3 (rdQ 1 c2 (rdQ 2 b3 (opQr Tryz.prog (vS (Instr.lookup 136 (.map (some n)) (.agg #[.int .u8 x2.1, .int .u8 x2.2]) false)) [(mo n m)] Unit (fun _=>((mget m (Value.agg #[.int .u8 x2.1, .int .u8 x2.2])).getD (vI 0))) (fun _=>True) (fun _=>rndQ Tryz.prog l #[.agg #[.int .u8 x2.1, .int .u8 x2.2],((mget m (Value.agg #[.int .u8 x2.1, .int .u8 x2.2])).getD (vI 0))] [(T x1)] Bool (fun zx=> .bool zx) (fun zx=> [(bif zx then T (x1+1) else S)]) (fun zx=>True) (fun x4=>((!x4)=true->keys_AllX0_138_Q l c1 c2 n x m T S (Value.tuple #[]) (bk c1 #[sv x.1] 153) (sk 99 x.1) (bk c2 #[.map (some n)] 136) (mo n m) (bif x4 then T (x1+1) else S))/\((!x4)=false-> ∃zy:Nat,(zy<=(vals x.1).length)/\(vals x.1).length - zy<(vals x.1).length - x1/\Value.func (.yield l) #[] #[]= .func (.yield l) #[] #[]/\pp c1 0=pp c1 0/\pp c2 0=pp c2 0/\sv x.1=sv x.1/\Value.int .i64 ((vlen (sv x.1):Nat):Int)= .int .i64 ((vlen (sv x.1):Nat):Int)/\Value.int .i64 (IntKind.i64.wrap (((x1:Nat):Int)+1))= .int .i64 ((zy:Nat):Int)/\bk c1 #[sv x.1] 153=bk c1 #[sv x.1] 153/\(sk 99 x.1)=(sk 99 x.1)/\bk c2 #[.map (some n)] 136=bk c2 #[.map (some n)] 136/\(mo n m)=(mo n m)/\(bif x4 then T (x1+1) else S)=(T zy)/\True)))))))))/\((decide (((x1:Nat):Int)<((vlen (sv x.1):Nat):Int)))=false->keys_AllX0_138_Q l c1 c2 n x m T S (Value.tuple #[]) (bk c1 #[sv x.1] 153) (sk 99 x.1) (bk c2 #[.map (some n)] 136) (mo n m) (T x1)))):=by kernel_rfl
set_option maxRecDepth 100000 in
theorem keys_AllX0_138 (l c1 c2 n:Nat) (x:RK 2) (m:KV) (T:Nat->Slot) (S:Slot) (hk:KOK Tryz.mk138 m) (hl:m.length<=1048576) (hx:KeysOf2 m (vals x.1)) (hT: ∀i,i<(vals x.1).length->RoundT Tryz.prog l #[(vals x.1).getD i undef,(mget m ((vals x.1).getD i undef)).getD (vI 0)] [T i] Bool (fun b=> .bool b) (fun b=> [bif b then T (i+1) else S]) (fun _=>True)):CallT Tryz.prog 92 #[.func (.yield l) #[] #[],pp c1 0,pp c2 0] [bk c1 #[sv x.1] 153,(sk 99 x.1),bk c2 #[.map (some n)] 136,(mo n m),(T 0)] Bool (fun zx=> .tuple #[]) (fun zx=> [bk c1 #[sv x.1] 153,(sk 99 x.1),bk c2 #[.map (some n)] 136,(mo n m),(bif zx then T (vals x.1).length else S)]) (fun zx=>(True)):=by
  refine call_of (c:=bodyOf Tryz.f92) (n:=20) (fn:=Tryz.f92) Tryz.mixed Tryz.func92 (by kernel_rfl) (by kernel_rfl) (by kernel_rfl) 2000 _ [] [0,1,2,3,4] rfl rfl (Eq.mpr (keys_AllX0_138_vc l c1 c2 n x m T S) ?_)
  have hL:(vals x.1).length<=1048576:=by have:=hx.1.length_eq;simp at this;omega
  refine rdQ_mk 1 _ ⟨xlenK Tryz.sk153 3 x.1,⟨?_,fun x1 jx1 h1=> ?_⟩⟩
  · exact ⟨0,Nat.zero_le _,rfl,rfl,rfl,rfl,rfl,rfl,rfl,rfl,rfl,rfl,rfl,trivial⟩
  have hlen:=vlen_sv x.1
  refine ⟨fun h2=> ?_,fun h2=> ?_⟩
  · refine ⟨xidxK Tryz.sk153 x.1 .i64 ((x1:Nat):Int) (by omega) (by have:=(ilt_of hlen h2);omega),opQr_mk (xgetKV Tryz.sk153 tV x (Int.toNat ((x1:Nat):Int)) (pair_at hx.2.2 (by have:=(ilt_of hlen h2);exact this))) (wgetKV (pair_at hx.2.2 (by have:=(ilt_of hlen h2);exact this))) fun x2 h3=> ?_⟩
    replace h3:=egetKV (pair_at hx.2.2 (by have:=(ilt_of hlen h2);exact this)) h3
    have hK:=h3
    intro b3
    refine rdQ_mk 2 _ (rdQ_mk 2 _ (rdQ_mk 1 _ (rdQ_mk 2 _ (opQr_mk (xlookup1 Tryz.kl138.tm hk.keys ⟨_,_,rfl⟩) (⟨(),trivial⟩) fun _ _=>rndQ_mk (by have hr:=hT x1 (ilt_of hlen h2);rw [getD_at (i:=x1) hK] at hr;exact hr) (⟨true,trivial⟩) fun x4 h4=>⟨fun h5=> ?_,fun h5=> ?_⟩))))
    · have hb:x4=false:=by simpa using h5
      exact ⟨false,trivial,rfl,rfl,rfl,rfl,rfl,by rw [hb];rfl,trivial⟩
    have hb:x4=true:=by simpa using h5
    simp only [decide_eq_true_eq] at h2
    exact ⟨x1+1,by omega,by omega,rfl,rfl,rfl,rfl,rfl,congrArg (Value.int .i64) (wrap_succ (n:=x1) (N:=(vals x.1).length) (by omega) (by omega)),rfl,rfl,rfl,rfl,by rw [hb];rfl,trivial⟩
  unfold keys_AllX0_138_Q
  simp only [decide_eq_false_iff_not] at h2
  have he:x1=(vals x.1).length:=by omega
  rw [he]
  exact ⟨true,trivial,rfl,rfl,rfl,rfl,rfl,rfl,trivial⟩
theorem keys_AllX138 (c1 c2 n:Nat) (x:RK 2) (m:KV) (hk:KOK Tryz.mk138 m) (hl:m.length<=1048576) (hx:KeysOf2 m (vals x.1)):Iter Tryz.prog 92 #[.pointer (some ⟨c1,0,none⟩), .pointer (some ⟨c2,0,none⟩)] [.blk c1 (.cells #[sv x.1] 153 (0,0)),(sk 99 x.1), .blk c2 (.cells #[.map (some n)] 136 (0,0)),(mo n m)] (vals x.1).length (fun i=> #[(vals x.1).getD i undef,(mget m ((vals x.1).getD i undef)).getD (vI 0)]):=fun l T S hT=>keys_AllX0_138 l c1 c2 n x m T S hk hl hx hT
theorem Tryz.sl52:SlT Tryz.prog 52 5 (.int .u8 0):=SlT.of (by kernel_rfl) (by kernel_rfl) (by kernel_rfl) (by kernel_rfl) rfl
noncomputable def pk_num1_C:List Value->List Slot->Ctr:=fun vs hs=>⟨Row,fun zx=> .pointer (some ⟨(vblk (varg vs 1)),0,none⟩),fun zx=> [.blk (vblk (varg vs 1)) (.cells #[sv zx] 83 (0,0)),(ss 5 zx)],fun zx=>BOK zx/\(dg zx).length=((rdv (scell (sarg hs 0) 0) (sarg hs 1))).length+1/\dg zx=(rdv (scell (sarg hs 0) 0) (sarg hs 1))++nb1 (ci (varg vs 2))⟩
abbrev pk_num1_Q (bw:Nat) (r:Row) (x:Int) (zv:Value) (zs0:Slot) (zs1:Slot):Prop:= ∃zx:Row,(BOK zx/\(dg zx).length=((rdv (sv r) (ss 5 r))).length+1/\dg zx=(rdv (sv r) (ss 5 r))++nb1 x)/\zv=pp bw 0/\zs0=bk bw #[sv zx] 83/\zs1=(ss 5 zx)/\True
abbrev pk_num1_A (bw:Nat) (r:Row) (x:Int) (zF:SF Row):Prop:=zF #[pp bw 0,uu x, .int .i64 1] [bk bw #[sv r] 83,(ss 5 r)] (fun zx=>pp bw 0) (fun zx=> [bk bw #[sv zx] 83,(ss 5 zx)]) (fun zx=>(BOK zx/\(dg zx).length=((rdv (sv r) (ss 5 r))).length+1/\dg zx=(rdv (sv r) (ss 5 r))++nb1 x))
set_option maxRecDepth 100000 in
theorem pk_num1_vc (bw:Nat) (r:Row) (x:Int):pk_num1_A bw r x (fun za zh zv zu zp=>codeW Tryz.prog 29 none 2000 none (bodyOf Tryz.f67) (.reg [S0] (.reg [S0,S0,S0] (.reg [S0,S0] (.condT (.reg [S0,S0,S0,S0, .sem [.rd 0],S0,S0,S0,S0,S0, .sem [.nw 2], .specw [1,2] [1,2] (F_appN 5),S0,S0, .specw [0] [0] F_put] (.reg [S0,S0,S0] (.reg [S0,S0] (.condF (.reg [S0,S0] (.done))))))))))
    (init za zh) (finW Tryz.prog Tryz.f67 [] [0,1] (X:=Row) zv zu zp))=
    ((true=true)/\rdQ 1 bw (∀b1:Nat,opQ Tryz.prog (vS (Builtin.append_ #[52,52] 52 #[sv r, .slice (some ⟨b1,0,none⟩) 1 1])) [(ss 5 r),bk b1 #[.int .u8 (IntKind.u8.wrap (Int.fdiv x (2^0)))] 5] Row (fun zx=>sv zx) (fun zx=> [(ss 5 zx),bk b1 #[.int .u8 (IntKind.u8.wrap (Int.fdiv x (2^0)))] 5]) (fun zx=>vals zx=rvals (sv r) (ss 5 r)++srcv (Value.slice (some ⟨b1,0,none⟩) 1 1) (bk b1 #[.int .u8 (IntKind.u8.wrap (Int.fdiv x (2^0)))] 5)) (fun x2=>opQ Tryz.prog (skS (Instr.storeAt 52 (pp bw 0) (sv x2))) [bk bw #[sv r] 83] Unit (fun _=> .tuple #[]) (fun _=> [bk bw #[sv x2] 83]) (fun _=>True) (fun _=>(false=false)/\pk_num1_Q bw r x (pp bw 0) (bk bw #[sv x2] 83) (ss 5 x2))))):=by kernel_rfl
set_option maxRecDepth 100000 in
theorem pk_num1 (bw:Nat) (r:Row) (x:Int) (r_r:BOK r) (hr:(dg r).length<=6000):pk_num1_A bw r x (fun za zh zv zu zp=>CallT Tryz.prog 67 za zh Row zv zu zp):=by
  refine call_of (c:=bodyOf Tryz.f67) (n:=29) (fn:=Tryz.f67) Tryz.mixed Tryz.func67 (by kernel_rfl) (by kernel_rfl) (by kernel_rfl) 2000 _ [] [0,1] rfl rfl (Eq.mpr (pk_num1_vc bw r x) ?_)
  have d_r:=rdv_eq r 5
  have e_r:=vlen_dg r
  refine ⟨rfl,rdQ_mk 1 _ (fun b1=>opQ_mk (xappNR Tryz.sl52 52 r (by rw [vals_len];first | omega | decide | exact Nat.le_of_ble_eq_true rfl) (Nat.le_of_ble_eq_true rfl) (by decide) rfl) (wit_appN _) fun x2 h1=> ?_)⟩
  obtain ⟨hBh1,hNh1,hDh1⟩:=bok_app (r:=r) (l:= [(IntKind.u8.wrap (Int.fdiv x (2^0)))]) (by assumption) (by rw [rvals_eq] at h1;exact h1)
  simp only [List.length_cons,List.length_nil,List.length_replicate,Nat.zero_add,l32_length] at hNh1
  refine opQ_mk (xputv (b:=bw) (cs:= #[sv r]) (ty:=83) (te:=52) (fun w=>by kernel_rfl) 0 (sv x2) (cells_sv _) (one_sv _) (by show 0<1;decide)) (⟨(),trivial⟩) fun _ _=>⟨rfl,?_⟩
  unfold pk_num1_Q
  rw [d_r]
  exact ⟨x2,⟨by assumption,by omega,by simp only [hDh1,List.append_assoc,List.nil_append,List.cons_append];rfl⟩,rfl,rfl,rfl,trivial⟩
abbrev pk_num1_K (bw:Nat) (r:Row) (x:Int) (KK:Row->Prop):Prop:=pk_num1_A bw r x (fun za zh zv zu zp=>callQ Tryz.prog 67 za zh Row zv zu zp KK)
theorem pk_num1_m (bw:Nat) (r:Row) (x:Int) {KK:Row->Prop} (kont: ∀zx:Row,(BOK zx/\(dg zx).length=((dg r)).length+1/\dg zx=(dg r)++nb1 x)->KK zx) (r_r:BOK r:=by assumption) (hr:(dg r).length<=6000:=by first | omega | decide):pk_num1_K bw r x KK:=callQ_mk (pk_num1 bw r x r_r hr) (wit_bok rfl) fun zx hz=>by
  simp only [rdv_eq,rdv_nil] at hz
  exact kont zx hz
noncomputable def pk_U8_C:List Value->List Slot->Ctr:=fun vs hs=>⟨Row,fun zx=> .pointer (some ⟨(vblk (varg vs 1)),0,none⟩),fun zx=> [.blk (vblk (varg vs 1)) (.cells #[sv zx] 83 (0,0)),(ss 5 zx)],fun zx=>BOK zx/\(dg zx).length=((rdv (scell (sarg hs 0) 0) (sarg hs 1))).length+1/\dg zx=(rdv (scell (sarg hs 0) 0) (sarg hs 1))++nb1 (IntKind.u64.wrap (ci (varg vs 2)))⟩
abbrev pk_U8_Q (bw:Nat) (r:Row) (x:Int) (zv:Value) (zs0:Slot) (zs1:Slot):Prop:= ∃zx:Row,(BOK zx/\(dg zx).length=((rdv (sv r) (ss 5 r))).length+1/\dg zx=(rdv (sv r) (ss 5 r))++nb1 (IntKind.u64.wrap x))/\zv=pp bw 0/\zs0=bk bw #[sv zx] 83/\zs1=(ss 5 zx)/\True
abbrev pk_U8_A (bw:Nat) (r:Row) (x:Int) (zF:SF Row):Prop:=zF #[pp bw 0, .int .u8 x] [bk bw #[sv r] 83,(ss 5 r)] (fun zx=>pp bw 0) (fun zx=> [bk bw #[sv zx] 83,(ss 5 zx)]) (fun zx=>(BOK zx/\(dg zx).length=((rdv (sv r) (ss 5 r))).length+1/\dg zx=(rdv (sv r) (ss 5 r))++nb1 (IntKind.u64.wrap x)))
set_option maxRecDepth 100000 in
theorem pk_U8_vc (bw:Nat) (r:Row) (x:Int):pk_U8_A bw r x (fun za zh zv zu zp=>codeW Tryz.prog 9 none 2000 none (bodyOf Tryz.f65) (.reg [S0] (.reg [S0,S0,S0, .callw [0,1] [0,1] pk_num1_C,S0] (.done)))
    (init za zh) (finW Tryz.prog Tryz.f65 [] [0,1] (X:=Row) zv zu zp))=
    (pk_num1_K bw r (IntKind.u64.wrap x) (fun x1=>pk_U8_Q bw r x (pp bw 0) (bk bw #[sv x1] 83) (ss 5 x1))):=by kernel_rfl
set_option maxRecDepth 100000 in
theorem pk_U8 (bw:Nat) (r:Row) (x:Int) (r_r:BOK r) (hr:(dg r).length<=6000):pk_U8_A bw r x (fun za zh zv zu zp=>CallT Tryz.prog 65 za zh Row zv zu zp):=by
  refine call_of (c:=bodyOf Tryz.f65) (n:=9) (fn:=Tryz.f65) Tryz.mixed Tryz.func65 (by kernel_rfl) (by kernel_rfl) (by kernel_rfl) 2000 _ [] [0,1] rfl rfl (Eq.mpr (pk_U8_vc bw r x) ?_)
  have d_r:=rdv_eq r 5
  have e_r:=vlen_dg r
  refine pk_num1_m bw r (IntKind.u64.wrap x) (fun x1 h1=> ?_)
  unfold pk_U8_Q
  rw [d_r]
  exact ⟨x1,h1,rfl,rfl,rfl,trivial⟩
abbrev pk_U8_K (bw:Nat) (r:Row) (x:Int) (KK:Row->Prop):Prop:=pk_U8_A bw r x (fun za zh zv zu zp=>callQ Tryz.prog 65 za zh Row zv zu zp KK)
theorem pk_U8_m (bw:Nat) (r:Row) (x:Int) {KK:Row->Prop} (kont: ∀zx:Row,(BOK zx/\(dg zx).length=((dg r)).length+1/\dg zx=(dg r)++nb1 (IntKind.u64.wrap x))->KK zx) (r_r:BOK r:=by assumption) (hr:(dg r).length<=6000:=by first | omega | decide):pk_U8_K bw r x KK:=callQ_mk (pk_U8 bw r x r_r hr) (wit_bok rfl) fun zx hz=>by
  simp only [rdv_eq,rdv_nil] at hz
  exact kont zx hz
noncomputable def pk_num4_C:List Value->List Slot->Ctr:=fun vs hs=>⟨Row,fun zx=> .pointer (some ⟨(vblk (varg vs 1)),0,none⟩),fun zx=> [.blk (vblk (varg vs 1)) (.cells #[sv zx] 83 (0,0)),(ss 5 zx)],fun zx=>BOK zx/\(dg zx).length=((rdv (scell (sarg hs 0) 0) (sarg hs 1))).length+4/\dg zx=(rdv (scell (sarg hs 0) 0) (sarg hs 1))++nb4 (ci (varg vs 2))⟩
abbrev pk_num4_Q (bw:Nat) (r:Row) (x:Int) (zv:Value) (zs0:Slot) (zs1:Slot):Prop:= ∃zx:Row,(BOK zx/\(dg zx).length=((rdv (sv r) (ss 5 r))).length+4/\dg zx=(rdv (sv r) (ss 5 r))++nb4 x)/\zv=pp bw 0/\zs0=bk bw #[sv zx] 83/\zs1=(ss 5 zx)/\True
abbrev pk_num4_A (bw:Nat) (r:Row) (x:Int) (zF:SF Row):Prop:=zF #[pp bw 0,uu x, .int .i64 4] [bk bw #[sv r] 83,(ss 5 r)] (fun zx=>pp bw 0) (fun zx=> [bk bw #[sv zx] 83,(ss 5 zx)]) (fun zx=>(BOK zx/\(dg zx).length=((rdv (sv r) (ss 5 r))).length+4/\dg zx=(rdv (sv r) (ss 5 r))++nb4 x))
set_option maxRecDepth 100000 in
theorem pk_num4_vc (bw:Nat) (r:Row) (x:Int):pk_num4_A bw r x (fun za zh zv zu zp=>codeW Tryz.prog 29 none 2000 none (bodyOf Tryz.f67) (.reg [S0] (.reg [S0,S0,S0] (.reg [S0,S0] (.condT (.reg [S0,S0,S0,S0, .sem [.rd 0],S0,S0,S0,S0,S0, .sem [.nw 2], .specw [1,2] [1,2] (F_appN 5),S0,S0, .specw [0] [0] F_put] (.reg [S0,S0,S0] (.reg [S0,S0] (.condT (.reg [S0,S0,S0,S0, .sem [.rd 0],S0,S0,S0,S0,S0, .sem [.nw 2], .specw [1,2] [1,2] (F_appN 5),S0,S0, .specw [0] [0] F_put] (.reg [S0,S0,S0] (.reg [S0,S0] (.condT (.reg [S0,S0,S0,S0, .sem [.rd 0],S0,S0,S0,S0,S0, .sem [.nw 2], .specw [1,2] [1,2] (F_appN 5),S0,S0, .specw [0] [0] F_put] (.reg [S0,S0,S0] (.reg [S0,S0] (.condT (.reg [S0,S0,S0,S0, .sem [.rd 0],S0,S0,S0,S0,S0, .sem [.nw 2], .specw [1,2] [1,2] (F_appN 5),S0,S0, .specw [0] [0] F_put] (.reg [S0,S0,S0] (.reg [S0,S0] (.condF (.reg [S0,S0] (.done))))))))))))))))))))))
    (init za zh) (finW Tryz.prog Tryz.f67 [] [0,1] (X:=Row) zv zu zp))=
    ((true=true)/\rdQ 1 bw (∀b1:Nat,opQ Tryz.prog (vS (Builtin.append_ #[52,52] 52 #[sv r, .slice (some ⟨b1,0,none⟩) 1 1])) [(ss 5 r),bk b1 #[.int .u8 (IntKind.u8.wrap (Int.fdiv x (2^24)))] 5] Row (fun zx=>sv zx) (fun zx=> [(ss 5 zx),bk b1 #[.int .u8 (IntKind.u8.wrap (Int.fdiv x (2^24)))] 5]) (fun zx=>vals zx=rvals (sv r) (ss 5 r)++srcv (Value.slice (some ⟨b1,0,none⟩) 1 1) (bk b1 #[.int .u8 (IntKind.u8.wrap (Int.fdiv x (2^24)))] 5)) (fun x2=>opQ Tryz.prog (skS (Instr.storeAt 52 (pp bw 0) (sv x2))) [bk bw #[sv r] 83] Unit (fun _=> .tuple #[]) (fun _=> [bk bw #[sv x2] 83]) (fun _=>True) (fun _=>(true=true)/\rdQ 1 bw (∀b3:Nat,opQ Tryz.prog (vS (Builtin.append_ #[52,52] 52 #[sv x2, .slice (some ⟨b3,0,none⟩) 1 1])) [(ss 5 x2),bk b3 #[.int .u8 (IntKind.u8.wrap (Int.fdiv x (2^16)))] 5] Row (fun zx=>sv zx) (fun zx=> [(ss 5 zx),bk b3 #[.int .u8 (IntKind.u8.wrap (Int.fdiv x (2^16)))] 5]) (fun zx=>vals zx=rvals (sv x2) (ss 5 x2)++srcv (Value.slice (some ⟨b3,0,none⟩) 1 1) (bk b3 #[.int .u8 (IntKind.u8.wrap (Int.fdiv x (2^16)))] 5)) (fun x4=>opQ Tryz.prog (skS (Instr.storeAt 52 (pp bw 0) (sv x4))) [bk bw #[sv x2] 83] Unit (fun _=> .tuple #[]) (fun _=> [bk bw #[sv x4] 83]) (fun _=>True) (fun _=>(true=true)/\rdQ 1 bw (∀b5:Nat,opQ Tryz.prog (vS (Builtin.append_ #[52,52] 52 #[sv x4, .slice (some ⟨b5,0,none⟩) 1 1])) [(ss 5 x4),bk b5 #[.int .u8 (IntKind.u8.wrap (Int.fdiv x (2^8)))] 5] Row (fun zx=>sv zx) (fun zx=> [(ss 5 zx),bk b5 #[.int .u8 (IntKind.u8.wrap (Int.fdiv x (2^8)))] 5]) (fun zx=>vals zx=rvals (sv x4) (ss 5 x4)++srcv (Value.slice (some ⟨b5,0,none⟩) 1 1) (bk b5 #[.int .u8 (IntKind.u8.wrap (Int.fdiv x (2^8)))] 5)) (fun x6=>opQ Tryz.prog (skS (Instr.storeAt 52 (pp bw 0) (sv x6))) [bk bw #[sv x4] 83] Unit (fun _=> .tuple #[]) (fun _=> [bk bw #[sv x6] 83]) (fun _=>True) (fun _=>(true=true)/\rdQ 1 bw (∀b7:Nat,opQ Tryz.prog (vS (Builtin.append_ #[52,52] 52 #[sv x6, .slice (some ⟨b7,0,none⟩) 1 1])) [(ss 5 x6),bk b7 #[.int .u8 (IntKind.u8.wrap (Int.fdiv x (2^0)))] 5] Row (fun zx=>sv zx) (fun zx=> [(ss 5 zx),bk b7 #[.int .u8 (IntKind.u8.wrap (Int.fdiv x (2^0)))] 5]) (fun zx=>vals zx=rvals (sv x6) (ss 5 x6)++srcv (Value.slice (some ⟨b7,0,none⟩) 1 1) (bk b7 #[.int .u8 (IntKind.u8.wrap (Int.fdiv x (2^0)))] 5)) (fun x8=>opQ Tryz.prog (skS (Instr.storeAt 52 (pp bw 0) (sv x8))) [bk bw #[sv x6] 83] Unit (fun _=> .tuple #[]) (fun _=> [bk bw #[sv x8] 83]) (fun _=>True) (fun _=>(false=false)/\pk_num4_Q bw r x (pp bw 0) (bk bw #[sv x8] 83) (ss 5 x8)))))))))))))):=by kernel_rfl
set_option maxRecDepth 100000 in
theorem pk_num4 (bw:Nat) (r:Row) (x:Int) (r_r:BOK r) (hr:(dg r).length<=6000):pk_num4_A bw r x (fun za zh zv zu zp=>CallT Tryz.prog 67 za zh Row zv zu zp):=by
  refine call_of (c:=bodyOf Tryz.f67) (n:=29) (fn:=Tryz.f67) Tryz.mixed Tryz.func67 (by kernel_rfl) (by kernel_rfl) (by kernel_rfl) 2000 _ [] [0,1] rfl rfl (Eq.mpr (pk_num4_vc bw r x) ?_)
  have d_r:=rdv_eq r 5
  have e_r:=vlen_dg r
  refine ⟨rfl,rdQ_mk 1 _ (fun b1=>opQ_mk (xappNR Tryz.sl52 52 r (by rw [vals_len];first | omega | decide | exact Nat.le_of_ble_eq_true rfl) (Nat.le_of_ble_eq_true rfl) (by decide) rfl) (wit_appN _) fun x2 h1=> ?_)⟩
  obtain ⟨hBh1,hNh1,hDh1⟩:=bok_app (r:=r) (l:= [(IntKind.u8.wrap (Int.fdiv x (2^24)))]) (by assumption) (by rw [rvals_eq] at h1;exact h1)
  simp only [List.length_cons,List.length_nil,List.length_replicate,Nat.zero_add,l32_length] at hNh1
  refine opQ_mk (xputv (b:=bw) (cs:= #[sv r]) (ty:=83) (te:=52) (fun w=>by kernel_rfl) 0 (sv x2) (cells_sv _) (one_sv _) (by show 0<1;decide)) (⟨(),trivial⟩) fun _ _=>⟨rfl,rdQ_mk 1 _ (fun b3=>opQ_mk (xappNR Tryz.sl52 52 x2 (by rw [vals_len];first | omega | decide | exact Nat.le_of_ble_eq_true rfl) (Nat.le_of_ble_eq_true rfl) (by decide) rfl) (wit_appN _) fun x4 h2=> ?_)⟩
  obtain ⟨hBh2,hNh2,hDh2⟩:=bok_app (r:=x2) (l:= [(IntKind.u8.wrap (Int.fdiv x (2^16)))]) (by assumption) (by rw [rvals_eq] at h2;exact h2)
  simp only [List.length_cons,List.length_nil,List.length_replicate,Nat.zero_add,l32_length] at hNh2
  refine opQ_mk (xputv (b:=bw) (cs:= #[sv x2]) (ty:=83) (te:=52) (fun w=>by kernel_rfl) 0 (sv x4) (cells_sv _) (one_sv _) (by show 0<1;decide)) (⟨(),trivial⟩) fun _ _=>⟨rfl,rdQ_mk 1 _ (fun b5=>opQ_mk (xappNR Tryz.sl52 52 x4 (by rw [vals_len];first | omega | decide | exact Nat.le_of_ble_eq_true rfl) (Nat.le_of_ble_eq_true rfl) (by decide) rfl) (wit_appN _) fun x6 h3=> ?_)⟩
  obtain ⟨hBh3,hNh3,hDh3⟩:=bok_app (r:=x4) (l:= [(IntKind.u8.wrap (Int.fdiv x (2^8)))]) (by assumption) (by rw [rvals_eq] at h3;exact h3)
  simp only [List.length_cons,List.length_nil,List.length_replicate,Nat.zero_add,l32_length] at hNh3
  refine opQ_mk (xputv (b:=bw) (cs:= #[sv x4]) (ty:=83) (te:=52) (fun w=>by kernel_rfl) 0 (sv x6) (cells_sv _) (one_sv _) (by show 0<1;decide)) (⟨(),trivial⟩) fun _ _=>⟨rfl,rdQ_mk 1 _ (fun b7=>opQ_mk (xappNR Tryz.sl52 52 x6 (by rw [vals_len];first | omega | decide | exact Nat.le_of_ble_eq_true rfl) (Nat.le_of_ble_eq_true rfl) (by decide) rfl) (wit_appN _) fun x8 h4=> ?_)⟩
  obtain ⟨hBh4,hNh4,hDh4⟩:=bok_app (r:=x6) (l:= [(IntKind.u8.wrap (Int.fdiv x (2^0)))]) (by assumption) (by rw [rvals_eq] at h4;exact h4)
  simp only [List.length_cons,List.length_nil,List.length_replicate,Nat.zero_add,l32_length] at hNh4
  refine opQ_mk (xputv (b:=bw) (cs:= #[sv x6]) (ty:=83) (te:=52) (fun w=>by kernel_rfl) 0 (sv x8) (cells_sv _) (one_sv _) (by show 0<1;decide)) (⟨(),trivial⟩) fun _ _=>⟨rfl,?_⟩
  unfold pk_num4_Q
  rw [d_r]
  exact ⟨x8,⟨by assumption,by omega,by simp only [hDh1,hDh2,hDh3,hDh4,List.append_assoc,List.nil_append,List.cons_append];rfl⟩,rfl,rfl,rfl,trivial⟩
abbrev pk_num4_K (bw:Nat) (r:Row) (x:Int) (KK:Row->Prop):Prop:=pk_num4_A bw r x (fun za zh zv zu zp=>callQ Tryz.prog 67 za zh Row zv zu zp KK)
theorem pk_num4_m (bw:Nat) (r:Row) (x:Int) {KK:Row->Prop} (kont: ∀zx:Row,(BOK zx/\(dg zx).length=((dg r)).length+4/\dg zx=(dg r)++nb4 x)->KK zx) (r_r:BOK r:=by assumption) (hr:(dg r).length<=6000:=by first | omega | decide):pk_num4_K bw r x KK:=callQ_mk (pk_num4 bw r x r_r hr) (wit_bok rfl) fun zx hz=>by
  simp only [rdv_eq,rdv_nil] at hz
  exact kont zx hz
noncomputable def pk_U32_C:List Value->List Slot->Ctr:=fun vs hs=>⟨Row,fun zx=> .pointer (some ⟨(vblk (varg vs 1)),0,none⟩),fun zx=> [.blk (vblk (varg vs 1)) (.cells #[sv zx] 83 (0,0)),(ss 5 zx)],fun zx=>BOK zx/\(dg zx).length=((rdv (scell (sarg hs 0) 0) (sarg hs 1))).length+4/\dg zx=(rdv (scell (sarg hs 0) 0) (sarg hs 1))++nb4 (IntKind.u64.wrap (ci (varg vs 2)))⟩
abbrev pk_U32_Q (bw:Nat) (r:Row) (x:Int) (zv:Value) (zs0:Slot) (zs1:Slot):Prop:= ∃zx:Row,(BOK zx/\(dg zx).length=((rdv (sv r) (ss 5 r))).length+4/\dg zx=(rdv (sv r) (ss 5 r))++nb4 (IntKind.u64.wrap x))/\zv=pp bw 0/\zs0=bk bw #[sv zx] 83/\zs1=(ss 5 zx)/\True
abbrev pk_U32_A (bw:Nat) (r:Row) (x:Int) (zF:SF Row):Prop:=zF #[pp bw 0, .int .u32 x] [bk bw #[sv r] 83,(ss 5 r)] (fun zx=>pp bw 0) (fun zx=> [bk bw #[sv zx] 83,(ss 5 zx)]) (fun zx=>(BOK zx/\(dg zx).length=((rdv (sv r) (ss 5 r))).length+4/\dg zx=(rdv (sv r) (ss 5 r))++nb4 (IntKind.u64.wrap x)))
set_option maxRecDepth 100000 in
theorem pk_U32_vc (bw:Nat) (r:Row) (x:Int):pk_U32_A bw r x (fun za zh zv zu zp=>codeW Tryz.prog 9 none 2000 none (bodyOf Tryz.f35) (.reg [S0] (.reg [S0,S0,S0, .callw [0,1] [0,1] pk_num4_C,S0] (.done)))
    (init za zh) (finW Tryz.prog Tryz.f35 [] [0,1] (X:=Row) zv zu zp))=
    (pk_num4_K bw r (IntKind.u64.wrap x) (fun x1=>pk_U32_Q bw r x (pp bw 0) (bk bw #[sv x1] 83) (ss 5 x1))):=by kernel_rfl
set_option maxRecDepth 100000 in
theorem pk_U32 (bw:Nat) (r:Row) (x:Int) (r_r:BOK r) (hr:(dg r).length<=6000):pk_U32_A bw r x (fun za zh zv zu zp=>CallT Tryz.prog 35 za zh Row zv zu zp):=by
  refine call_of (c:=bodyOf Tryz.f35) (n:=9) (fn:=Tryz.f35) Tryz.mixed Tryz.func35 (by kernel_rfl) (by kernel_rfl) (by kernel_rfl) 2000 _ [] [0,1] rfl rfl (Eq.mpr (pk_U32_vc bw r x) ?_)
  have d_r:=rdv_eq r 5
  have e_r:=vlen_dg r
  refine pk_num4_m bw r (IntKind.u64.wrap x) (fun x1 h1=> ?_)
  unfold pk_U32_Q
  rw [d_r]
  exact ⟨x1,h1,rfl,rfl,rfl,trivial⟩
abbrev pk_U32_K (bw:Nat) (r:Row) (x:Int) (KK:Row->Prop):Prop:=pk_U32_A bw r x (fun za zh zv zu zp=>callQ Tryz.prog 35 za zh Row zv zu zp KK)
theorem pk_U32_m (bw:Nat) (r:Row) (x:Int) {KK:Row->Prop} (kont: ∀zx:Row,(BOK zx/\(dg zx).length=((dg r)).length+4/\dg zx=(dg r)++nb4 (IntKind.u64.wrap x))->KK zx) (r_r:BOK r:=by assumption) (hr:(dg r).length<=6000:=by first | omega | decide):pk_U32_K bw r x KK:=callQ_mk (pk_U32 bw r x r_r hr) (wit_bok rfl) fun zx hz=>by
  simp only [rdv_eq,rdv_nil] at hz
  exact kont zx hz
noncomputable def pk_num8_C:List Value->List Slot->Ctr:=fun vs hs=>⟨Row,fun zx=> .pointer (some ⟨(vblk (varg vs 1)),0,none⟩),fun zx=> [.blk (vblk (varg vs 1)) (.cells #[sv zx] 83 (0,0)),(ss 5 zx)],fun zx=>BOK zx/\(dg zx).length=((rdv (scell (sarg hs 0) 0) (sarg hs 1))).length+8/\dg zx=(rdv (scell (sarg hs 0) 0) (sarg hs 1))++nb8 (ci (varg vs 2))⟩
abbrev pk_num8_Q (bw:Nat) (r:Row) (x:Int) (zv:Value) (zs0:Slot) (zs1:Slot):Prop:= ∃zx:Row,(BOK zx/\(dg zx).length=((rdv (sv r) (ss 5 r))).length+8/\dg zx=(rdv (sv r) (ss 5 r))++nb8 x)/\zv=pp bw 0/\zs0=bk bw #[sv zx] 83/\zs1=(ss 5 zx)/\True
abbrev pk_num8_A (bw:Nat) (r:Row) (x:Int) (zF:SF Row):Prop:=zF #[pp bw 0,uu x, .int .i64 8] [bk bw #[sv r] 83,(ss 5 r)] (fun zx=>pp bw 0) (fun zx=> [bk bw #[sv zx] 83,(ss 5 zx)]) (fun zx=>(BOK zx/\(dg zx).length=((rdv (sv r) (ss 5 r))).length+8/\dg zx=(rdv (sv r) (ss 5 r))++nb8 x))
set_option maxRecDepth 100000 in
theorem pk_num8_vc (bw:Nat) (r:Row) (x:Int):pk_num8_A bw r x (fun za zh zv zu zp=>codeW Tryz.prog 29 none 2000 none (bodyOf Tryz.f67) (.reg [S0] (.reg [S0,S0,S0] (.reg [S0,S0] (.condT (.reg [S0,S0,S0,S0, .sem [.rd 0],S0,S0,S0,S0,S0, .sem [.nw 2], .specw [1,2] [1,2] (F_appN 5),S0,S0, .specw [0] [0] F_put] (.reg [S0,S0,S0] (.reg [S0,S0] (.condT (.reg [S0,S0,S0,S0, .sem [.rd 0],S0,S0,S0,S0,S0, .sem [.nw 2], .specw [1,2] [1,2] (F_appN 5),S0,S0, .specw [0] [0] F_put] (.reg [S0,S0,S0] (.reg [S0,S0] (.condT (.reg [S0,S0,S0,S0, .sem [.rd 0],S0,S0,S0,S0,S0, .sem [.nw 2], .specw [1,2] [1,2] (F_appN 5),S0,S0, .specw [0] [0] F_put] (.reg [S0,S0,S0] (.reg [S0,S0] (.condT (.reg [S0,S0,S0,S0, .sem [.rd 0],S0,S0,S0,S0,S0, .sem [.nw 2], .specw [1,2] [1,2] (F_appN 5),S0,S0, .specw [0] [0] F_put] (.reg [S0,S0,S0] (.reg [S0,S0] (.condT (.reg [S0,S0,S0,S0, .sem [.rd 0],S0,S0,S0,S0,S0, .sem [.nw 2], .specw [1,2] [1,2] (F_appN 5),S0,S0, .specw [0] [0] F_put] (.reg [S0,S0,S0] (.reg [S0,S0] (.condT (.reg [S0,S0,S0,S0, .sem [.rd 0],S0,S0,S0,S0,S0, .sem [.nw 2], .specw [1,2] [1,2] (F_appN 5),S0,S0, .specw [0] [0] F_put] (.reg [S0,S0,S0] (.reg [S0,S0] (.condT (.reg [S0,S0,S0,S0, .sem [.rd 0],S0,S0,S0,S0,S0, .sem [.nw 2], .specw [1,2] [1,2] (F_appN 5),S0,S0, .specw [0] [0] F_put] (.reg [S0,S0,S0] (.reg [S0,S0] (.condT (.reg [S0,S0,S0,S0, .sem [.rd 0],S0,S0,S0,S0,S0, .sem [.nw 2], .specw [1,2] [1,2] (F_appN 5),S0,S0, .specw [0] [0] F_put] (.reg [S0,S0,S0] (.reg [S0,S0] (.condF (.reg [S0,S0] (.done))))))))))))))))))))))))))))))))))))))
    (init za zh) (finW Tryz.prog Tryz.f67 [] [0,1] (X:=Row) zv zu zp))=
    ((true=true)/\rdQ 1 bw (∀b1:Nat,opQ Tryz.prog (vS (Builtin.append_ #[52,52] 52 #[sv r, .slice (some ⟨b1,0,none⟩) 1 1])) [(ss 5 r),bk b1 #[.int .u8 (IntKind.u8.wrap (Int.fdiv x (2^56)))] 5] Row (fun zx=>sv zx) (fun zx=> [(ss 5 zx),bk b1 #[.int .u8 (IntKind.u8.wrap (Int.fdiv x (2^56)))] 5]) (fun zx=>vals zx=rvals (sv r) (ss 5 r)++srcv (Value.slice (some ⟨b1,0,none⟩) 1 1) (bk b1 #[.int .u8 (IntKind.u8.wrap (Int.fdiv x (2^56)))] 5)) (fun x2=>opQ Tryz.prog (skS (Instr.storeAt 52 (pp bw 0) (sv x2))) [bk bw #[sv r] 83] Unit (fun _=> .tuple #[]) (fun _=> [bk bw #[sv x2] 83]) (fun _=>True) (fun _=>(true=true)/\rdQ 1 bw (∀b3:Nat,opQ Tryz.prog (vS (Builtin.append_ #[52,52] 52 #[sv x2, .slice (some ⟨b3,0,none⟩) 1 1])) [(ss 5 x2),bk b3 #[.int .u8 (IntKind.u8.wrap (Int.fdiv x (2^48)))] 5] Row (fun zx=>sv zx) (fun zx=> [(ss 5 zx),bk b3 #[.int .u8 (IntKind.u8.wrap (Int.fdiv x (2^48)))] 5]) (fun zx=>vals zx=rvals (sv x2) (ss 5 x2)++srcv (Value.slice (some ⟨b3,0,none⟩) 1 1) (bk b3 #[.int .u8 (IntKind.u8.wrap (Int.fdiv x (2^48)))] 5)) (fun x4=>opQ Tryz.prog (skS (Instr.storeAt 52 (pp bw 0) (sv x4))) [bk bw #[sv x2] 83] Unit (fun _=> .tuple #[]) (fun _=> [bk bw #[sv x4] 83]) (fun _=>True) (fun _=>(true=true)/\rdQ 1 bw (∀b5:Nat,opQ Tryz.prog (vS (Builtin.append_ #[52,52] 52 #[sv x4, .slice (some ⟨b5,0,none⟩) 1 1])) [(ss 5 x4),bk b5 #[.int .u8 (IntKind.u8.wrap (Int.fdiv x (2^40)))] 5] Row (fun zx=>sv zx) (fun zx=> [(ss 5 zx),bk b5 #[.int .u8 (IntKind.u8.wrap (Int.fdiv x (2^40)))] 5]) (fun zx=>vals zx=rvals (sv x4) (ss 5 x4)++srcv (Value.slice (some ⟨b5,0,none⟩) 1 1) (bk b5 #[.int .u8 (IntKind.u8.wrap (Int.fdiv x (2^40)))] 5)) (fun x6=>opQ Tryz.prog (skS (Instr.storeAt 52 (pp bw 0) (sv x6))) [bk bw #[sv x4] 83] Unit (fun _=> .tuple #[]) (fun _=> [bk bw #[sv x6] 83]) (fun _=>True) (fun _=>(true=true)/\rdQ 1 bw (∀b7:Nat,opQ Tryz.prog (vS (Builtin.append_ #[52,52] 52 #[sv x6, .slice (some ⟨b7,0,none⟩) 1 1])) [(ss 5 x6),bk b7 #[.int .u8 (IntKind.u8.wrap (Int.fdiv x (2^32)))] 5] Row (fun zx=>sv zx) (fun zx=> [(ss 5 zx),bk b7 #[.int .u8 (IntKind.u8.wrap (Int.fdiv x (2^32)))] 5]) (fun zx=>vals zx=rvals (sv x6) (ss 5 x6)++srcv (Value.slice (some ⟨b7,0,none⟩) 1 1) (bk b7 #[.int .u8 (IntKind.u8.wrap (Int.fdiv x (2^32)))] 5)) (fun x8=>opQ Tryz.prog (skS (Instr.storeAt 52 (pp bw 0) (sv x8))) [bk bw #[sv x6] 83] Unit (fun _=> .tuple #[]) (fun _=> [bk bw #[sv x8] 83]) (fun _=>True) (fun _=>(true=true)/\rdQ 1 bw (∀b9:Nat,opQ Tryz.prog (vS (Builtin.append_ #[52,52] 52 #[sv x8, .slice (some ⟨b9,0,none⟩) 1 1])) [(ss 5 x8),bk b9 #[.int .u8 (IntKind.u8.wrap (Int.fdiv x (2^24)))] 5] Row (fun zx=>sv zx) (fun zx=> [(ss 5 zx),bk b9 #[.int .u8 (IntKind.u8.wrap (Int.fdiv x (2^24)))] 5]) (fun zx=>vals zx=rvals (sv x8) (ss 5 x8)++srcv (Value.slice (some ⟨b9,0,none⟩) 1 1) (bk b9 #[.int .u8 (IntKind.u8.wrap (Int.fdiv x (2^24)))] 5)) (fun x10=>opQ Tryz.prog (skS (Instr.storeAt 52 (pp bw 0) (sv x10))) [bk bw #[sv x8] 83] Unit (fun _=> .tuple #[]) (fun _=> [bk bw #[sv x10] 83]) (fun _=>True) (fun _=>(true=true)/\rdQ 1 bw (∀b11:Nat,opQ Tryz.prog (vS (Builtin.append_ #[52,52] 52 #[sv x10, .slice (some ⟨b11,0,none⟩) 1 1])) [(ss 5 x10),bk b11 #[.int .u8 (IntKind.u8.wrap (Int.fdiv x (2^16)))] 5] Row (fun zx=>sv zx) (fun zx=> [(ss 5 zx),bk b11 #[.int .u8 (IntKind.u8.wrap (Int.fdiv x (2^16)))] 5]) (fun zx=>vals zx=rvals (sv x10) (ss 5 x10)++srcv (Value.slice (some ⟨b11,0,none⟩) 1 1) (bk b11 #[.int .u8 (IntKind.u8.wrap (Int.fdiv x (2^16)))] 5)) (fun x12=>opQ Tryz.prog (skS (Instr.storeAt 52 (pp bw 0) (sv x12))) [bk bw #[sv x10] 83] Unit (fun _=> .tuple #[]) (fun _=> [bk bw #[sv x12] 83]) (fun _=>True) (fun _=>(true=true)/\rdQ 1 bw (∀b13:Nat,opQ Tryz.prog (vS (Builtin.append_ #[52,52] 52 #[sv x12, .slice (some ⟨b13,0,none⟩) 1 1])) [(ss 5 x12),bk b13 #[.int .u8 (IntKind.u8.wrap (Int.fdiv x (2^8)))] 5] Row (fun zx=>sv zx) (fun zx=> [(ss 5 zx),bk b13 #[.int .u8 (IntKind.u8.wrap (Int.fdiv x (2^8)))] 5]) (fun zx=>vals zx=rvals (sv x12) (ss 5 x12)++srcv (Value.slice (some ⟨b13,0,none⟩) 1 1) (bk b13 #[.int .u8 (IntKind.u8.wrap (Int.fdiv x (2^8)))] 5)) (fun x14=>opQ Tryz.prog (skS (Instr.storeAt 52 (pp bw 0) (sv x14))) [bk bw #[sv x12] 83] Unit (fun _=> .tuple #[]) (fun _=> [bk bw #[sv x14] 83]) (fun _=>True) (fun _=>(true=true)/\rdQ 1 bw (∀b15:Nat,opQ Tryz.prog (vS (Builtin.append_ #[52,52] 52 #[sv x14, .slice (some ⟨b15,0,none⟩) 1 1])) [(ss 5 x14),bk b15 #[.int .u8 (IntKind.u8.wrap (Int.fdiv x (2^0)))] 5] Row (fun zx=>sv zx) (fun zx=> [(ss 5 zx),bk b15 #[.int .u8 (IntKind.u8.wrap (Int.fdiv x (2^0)))] 5]) (fun zx=>vals zx=rvals (sv x14) (ss 5 x14)++srcv (Value.slice (some ⟨b15,0,none⟩) 1 1) (bk b15 #[.int .u8 (IntKind.u8.wrap (Int.fdiv x (2^0)))] 5)) (fun x16=>opQ Tryz.prog (skS (Instr.storeAt 52 (pp bw 0) (sv x16))) [bk bw #[sv x14] 83] Unit (fun _=> .tuple #[]) (fun _=> [bk bw #[sv x16] 83]) (fun _=>True) (fun _=>(false=false)/\pk_num8_Q bw r x (pp bw 0) (bk bw #[sv x16] 83) (ss 5 x16)))))))))))))))))))))))))):=by kernel_rfl
set_option maxRecDepth 100000 in
theorem pk_num8 (bw:Nat) (r:Row) (x:Int) (r_r:BOK r) (hr:(dg r).length<=6000):pk_num8_A bw r x (fun za zh zv zu zp=>CallT Tryz.prog 67 za zh Row zv zu zp):=by
  refine call_of (c:=bodyOf Tryz.f67) (n:=29) (fn:=Tryz.f67) Tryz.mixed Tryz.func67 (by kernel_rfl) (by kernel_rfl) (by kernel_rfl) 2000 _ [] [0,1] rfl rfl (Eq.mpr (pk_num8_vc bw r x) ?_)
  have d_r:=rdv_eq r 5
  have e_r:=vlen_dg r
  refine ⟨rfl,rdQ_mk 1 _ (fun b1=>opQ_mk (xappNR Tryz.sl52 52 r (by rw [vals_len];first | omega | decide | exact Nat.le_of_ble_eq_true rfl) (Nat.le_of_ble_eq_true rfl) (by decide) rfl) (wit_appN _) fun x2 h1=> ?_)⟩
  obtain ⟨hBh1,hNh1,hDh1⟩:=bok_app (r:=r) (l:= [(IntKind.u8.wrap (Int.fdiv x (2^56)))]) (by assumption) (by rw [rvals_eq] at h1;exact h1)
  simp only [List.length_cons,List.length_nil,List.length_replicate,Nat.zero_add,l32_length] at hNh1
  refine opQ_mk (xputv (b:=bw) (cs:= #[sv r]) (ty:=83) (te:=52) (fun w=>by kernel_rfl) 0 (sv x2) (cells_sv _) (one_sv _) (by show 0<1;decide)) (⟨(),trivial⟩) fun _ _=>⟨rfl,rdQ_mk 1 _ (fun b3=>opQ_mk (xappNR Tryz.sl52 52 x2 (by rw [vals_len];first | omega | decide | exact Nat.le_of_ble_eq_true rfl) (Nat.le_of_ble_eq_true rfl) (by decide) rfl) (wit_appN _) fun x4 h2=> ?_)⟩
  obtain ⟨hBh2,hNh2,hDh2⟩:=bok_app (r:=x2) (l:= [(IntKind.u8.wrap (Int.fdiv x (2^48)))]) (by assumption) (by rw [rvals_eq] at h2;exact h2)
  simp only [List.length_cons,List.length_nil,List.length_replicate,Nat.zero_add,l32_length] at hNh2
  refine opQ_mk (xputv (b:=bw) (cs:= #[sv x2]) (ty:=83) (te:=52) (fun w=>by kernel_rfl) 0 (sv x4) (cells_sv _) (one_sv _) (by show 0<1;decide)) (⟨(),trivial⟩) fun _ _=>⟨rfl,rdQ_mk 1 _ (fun b5=>opQ_mk (xappNR Tryz.sl52 52 x4 (by rw [vals_len];first | omega | decide | exact Nat.le_of_ble_eq_true rfl) (Nat.le_of_ble_eq_true rfl) (by decide) rfl) (wit_appN _) fun x6 h3=> ?_)⟩
  obtain ⟨hBh3,hNh3,hDh3⟩:=bok_app (r:=x4) (l:= [(IntKind.u8.wrap (Int.fdiv x (2^40)))]) (by assumption) (by rw [rvals_eq] at h3;exact h3)
  simp only [List.length_cons,List.length_nil,List.length_replicate,Nat.zero_add,l32_length] at hNh3
  refine opQ_mk (xputv (b:=bw) (cs:= #[sv x4]) (ty:=83) (te:=52) (fun w=>by kernel_rfl) 0 (sv x6) (cells_sv _) (one_sv _) (by show 0<1;decide)) (⟨(),trivial⟩) fun _ _=>⟨rfl,rdQ_mk 1 _ (fun b7=>opQ_mk (xappNR Tryz.sl52 52 x6 (by rw [vals_len];first | omega | decide | exact Nat.le_of_ble_eq_true rfl) (Nat.le_of_ble_eq_true rfl) (by decide) rfl) (wit_appN _) fun x8 h4=> ?_)⟩
  obtain ⟨hBh4,hNh4,hDh4⟩:=bok_app (r:=x6) (l:= [(IntKind.u8.wrap (Int.fdiv x (2^32)))]) (by assumption) (by rw [rvals_eq] at h4;exact h4)
  simp only [List.length_cons,List.length_nil,List.length_replicate,Nat.zero_add,l32_length] at hNh4
  refine opQ_mk (xputv (b:=bw) (cs:= #[sv x6]) (ty:=83) (te:=52) (fun w=>by kernel_rfl) 0 (sv x8) (cells_sv _) (one_sv _) (by show 0<1;decide)) (⟨(),trivial⟩) fun _ _=>⟨rfl,rdQ_mk 1 _ (fun b9=>opQ_mk (xappNR Tryz.sl52 52 x8 (by rw [vals_len];first | omega | decide | exact Nat.le_of_ble_eq_true rfl) (Nat.le_of_ble_eq_true rfl) (by decide) rfl) (wit_appN _) fun x10 h5=> ?_)⟩
  obtain ⟨hBh5,hNh5,hDh5⟩:=bok_app (r:=x8) (l:= [(IntKind.u8.wrap (Int.fdiv x (2^24)))]) (by assumption) (by rw [rvals_eq] at h5;exact h5)
  simp only [List.length_cons,List.length_nil,List.length_replicate,Nat.zero_add,l32_length] at hNh5
  refine opQ_mk (xputv (b:=bw) (cs:= #[sv x8]) (ty:=83) (te:=52) (fun w=>by kernel_rfl) 0 (sv x10) (cells_sv _) (one_sv _) (by show 0<1;decide)) (⟨(),trivial⟩) fun _ _=>⟨rfl,rdQ_mk 1 _ (fun b11=>opQ_mk (xappNR Tryz.sl52 52 x10 (by rw [vals_len];first | omega | decide | exact Nat.le_of_ble_eq_true rfl) (Nat.le_of_ble_eq_true rfl) (by decide) rfl) (wit_appN _) fun x12 h6=> ?_)⟩
  obtain ⟨hBh6,hNh6,hDh6⟩:=bok_app (r:=x10) (l:= [(IntKind.u8.wrap (Int.fdiv x (2^16)))]) (by assumption) (by rw [rvals_eq] at h6;exact h6)
  simp only [List.length_cons,List.length_nil,List.length_replicate,Nat.zero_add,l32_length] at hNh6
  refine opQ_mk (xputv (b:=bw) (cs:= #[sv x10]) (ty:=83) (te:=52) (fun w=>by kernel_rfl) 0 (sv x12) (cells_sv _) (one_sv _) (by show 0<1;decide)) (⟨(),trivial⟩) fun _ _=>⟨rfl,rdQ_mk 1 _ (fun b13=>opQ_mk (xappNR Tryz.sl52 52 x12 (by rw [vals_len];first | omega | decide | exact Nat.le_of_ble_eq_true rfl) (Nat.le_of_ble_eq_true rfl) (by decide) rfl) (wit_appN _) fun x14 h7=> ?_)⟩
  obtain ⟨hBh7,hNh7,hDh7⟩:=bok_app (r:=x12) (l:= [(IntKind.u8.wrap (Int.fdiv x (2^8)))]) (by assumption) (by rw [rvals_eq] at h7;exact h7)
  simp only [List.length_cons,List.length_nil,List.length_replicate,Nat.zero_add,l32_length] at hNh7
  refine opQ_mk (xputv (b:=bw) (cs:= #[sv x12]) (ty:=83) (te:=52) (fun w=>by kernel_rfl) 0 (sv x14) (cells_sv _) (one_sv _) (by show 0<1;decide)) (⟨(),trivial⟩) fun _ _=>⟨rfl,rdQ_mk 1 _ (fun b15=>opQ_mk (xappNR Tryz.sl52 52 x14 (by rw [vals_len];first | omega | decide | exact Nat.le_of_ble_eq_true rfl) (Nat.le_of_ble_eq_true rfl) (by decide) rfl) (wit_appN _) fun x16 h8=> ?_)⟩
  obtain ⟨hBh8,hNh8,hDh8⟩:=bok_app (r:=x14) (l:= [(IntKind.u8.wrap (Int.fdiv x (2^0)))]) (by assumption) (by rw [rvals_eq] at h8;exact h8)
  simp only [List.length_cons,List.length_nil,List.length_replicate,Nat.zero_add,l32_length] at hNh8
  refine opQ_mk (xputv (b:=bw) (cs:= #[sv x14]) (ty:=83) (te:=52) (fun w=>by kernel_rfl) 0 (sv x16) (cells_sv _) (one_sv _) (by show 0<1;decide)) (⟨(),trivial⟩) fun _ _=>⟨rfl,?_⟩
  unfold pk_num8_Q
  rw [d_r]
  exact ⟨x16,⟨by assumption,by omega,by simp only [hDh1,hDh2,hDh3,hDh4,hDh5,hDh6,hDh7,hDh8,List.append_assoc,List.nil_append,List.cons_append];rfl⟩,rfl,rfl,rfl,trivial⟩
abbrev pk_num8_K (bw:Nat) (r:Row) (x:Int) (KK:Row->Prop):Prop:=pk_num8_A bw r x (fun za zh zv zu zp=>callQ Tryz.prog 67 za zh Row zv zu zp KK)
theorem pk_num8_m (bw:Nat) (r:Row) (x:Int) {KK:Row->Prop} (kont: ∀zx:Row,(BOK zx/\(dg zx).length=((dg r)).length+8/\dg zx=(dg r)++nb8 x)->KK zx) (r_r:BOK r:=by assumption) (hr:(dg r).length<=6000:=by first | omega | decide):pk_num8_K bw r x KK:=callQ_mk (pk_num8 bw r x r_r hr) (wit_bok rfl) fun zx hz=>by
  simp only [rdv_eq,rdv_nil] at hz
  exact kont zx hz
noncomputable def pk_U64_C:List Value->List Slot->Ctr:=fun vs hs=>⟨Row,fun zx=> .pointer (some ⟨(vblk (varg vs 1)),0,none⟩),fun zx=> [.blk (vblk (varg vs 1)) (.cells #[sv zx] 83 (0,0)),(ss 5 zx)],fun zx=>BOK zx/\(dg zx).length=((rdv (scell (sarg hs 0) 0) (sarg hs 1))).length+8/\dg zx=(rdv (scell (sarg hs 0) 0) (sarg hs 1))++nb8 (ci (varg vs 2))⟩
abbrev pk_U64_Q (bw:Nat) (r:Row) (x:Int) (zv:Value) (zs0:Slot) (zs1:Slot):Prop:= ∃zx:Row,(BOK zx/\(dg zx).length=((rdv (sv r) (ss 5 r))).length+8/\dg zx=(rdv (sv r) (ss 5 r))++nb8 x)/\zv=pp bw 0/\zs0=bk bw #[sv zx] 83/\zs1=(ss 5 zx)/\True
abbrev pk_U64_A (bw:Nat) (r:Row) (x:Int) (zF:SF Row):Prop:=zF #[pp bw 0,uu x] [bk bw #[sv r] 83,(ss 5 r)] (fun zx=>pp bw 0) (fun zx=> [bk bw #[sv zx] 83,(ss 5 zx)]) (fun zx=>(BOK zx/\(dg zx).length=((rdv (sv r) (ss 5 r))).length+8/\dg zx=(rdv (sv r) (ss 5 r))++nb8 x))
set_option maxRecDepth 100000 in
theorem pk_U64_vc (bw:Nat) (r:Row) (x:Int):pk_U64_A bw r x (fun za zh zv zu zp=>codeW Tryz.prog 8 none 2000 none (bodyOf Tryz.f37) (.reg [S0] (.reg [S0,S0, .callw [0,1] [0,1] pk_num8_C,S0] (.done)))
    (init za zh) (finW Tryz.prog Tryz.f37 [] [0,1] (X:=Row) zv zu zp))=
    (pk_num8_K bw r x (fun x1=>pk_U64_Q bw r x (pp bw 0) (bk bw #[sv x1] 83) (ss 5 x1))):=by kernel_rfl
set_option maxRecDepth 100000 in
theorem pk_U64 (bw:Nat) (r:Row) (x:Int) (r_r:BOK r) (hr:(dg r).length<=6000):pk_U64_A bw r x (fun za zh zv zu zp=>CallT Tryz.prog 37 za zh Row zv zu zp):=by
  refine call_of (c:=bodyOf Tryz.f37) (n:=8) (fn:=Tryz.f37) Tryz.mixed Tryz.func37 (by kernel_rfl) (by kernel_rfl) (by kernel_rfl) 2000 _ [] [0,1] rfl rfl (Eq.mpr (pk_U64_vc bw r x) ?_)
  have d_r:=rdv_eq r 5
  have e_r:=vlen_dg r
  refine pk_num8_m bw r x (fun x1 h1=> ?_)
  unfold pk_U64_Q
  rw [d_r]
  exact ⟨x1,h1,rfl,rfl,rfl,trivial⟩
abbrev pk_U64_K (bw:Nat) (r:Row) (x:Int) (KK:Row->Prop):Prop:=pk_U64_A bw r x (fun za zh zv zu zp=>callQ Tryz.prog 37 za zh Row zv zu zp KK)
theorem pk_U64_m (bw:Nat) (r:Row) (x:Int) {KK:Row->Prop} (kont: ∀zx:Row,(BOK zx/\(dg zx).length=((dg r)).length+8/\dg zx=(dg r)++nb8 x)->KK zx) (r_r:BOK r:=by assumption) (hr:(dg r).length<=6000:=by first | omega | decide):pk_U64_K bw r x KK:=callQ_mk (pk_U64 bw r x r_r hr) (wit_bok rfl) fun zx hz=>by
  simp only [rdv_eq,rdv_nil] at hz
  exact kont zx hz
noncomputable def by_Clone_C:List Value->List Slot->Ctr:=fun vs hs=>⟨Row,fun zx=>sv zx,fun zx=> [(sarg hs 0),(ss 5 zx)],fun zx=>BOK zx/\(dg zx).length=((rdv (varg vs 1) (sarg hs 0))).length/\dg zx=(rdv (varg vs 1) (sarg hs 0))⟩
abbrev by_Clone_Q (r:Row) (zv:Value) (zs0:Slot) (zs1:Slot):Prop:= ∃zx:Row,(BOK zx/\(dg zx).length=((rdv (sv r) (ss 5 r))).length/\dg zx=(rdv (sv r) (ss 5 r)))/\zv=sv zx/\zs0=(ss 5 r)/\zs1=(ss 5 zx)/\True
abbrev by_Clone_A (r:Row) (zF:SF Row):Prop:=zF #[sv r] [(ss 5 r)] (fun zx=>sv zx) (fun zx=> [(ss 5 r),(ss 5 zx)]) (fun zx=>(BOK zx/\(dg zx).length=((rdv (sv r) (ss 5 r))).length/\dg zx=(rdv (sv r) (ss 5 r))))
set_option maxRecDepth 100000 in
theorem by_Clone_vc (r:Row):by_Clone_A r (fun za zh zv zu zp=>codeW Tryz.prog 8 none 2000 none (bodyOf Tryz.f68) (.reg [S0] (.reg [S0, .eq (f_nil)] (.cond (.reg [S0] (.done)) (.reg [.sem [.nw 1],S0, .specw [1,0] [40,0] (F_appN 5),S0] (.done)))))
    (init za zh) (finW Tryz.prog Tryz.f68 [] [0,40] (X:=Row) zv zu zp))=
    ((PureRun Tryz.prog (xBin .eql 52 (sv r) (.slice none 0 0)) (.bool (vnil (sv r))))/\((vnil (sv r))=true->by_Clone_Q r (Value.slice none 0 0) (ss 5 r) (Slot.free))/\((vnil (sv r))=false-> ∀b1:Nat,opQ Tryz.prog (vS (Builtin.append_ #[52,52] 52 #[sv (Row.mk b1 [] []),sv r])) [(ss 5 (Row.mk b1 [] [])),(ss 5 r)] Row (fun zx=>sv zx) (fun zx=> [(ss 5 zx),(ss 5 r)]) (fun zx=>vals zx=rvals (sv (Row.mk b1 [] [])) (ss 5 (Row.mk b1 [] []))++srcv (sv r) (ss 5 r)) (fun x2=>by_Clone_Q r (sv x2) (ss 5 r) (ss 5 x2)))):=by kernel_rfl
set_option maxRecDepth 100000 in
theorem by_Clone (r:Row) (r_r:BOK r) (hr:(dg r).length<=6000):by_Clone_A r (fun za zh zv zu zp=>CallT Tryz.prog 68 za zh Row zv zu zp):=by
  refine call_of (c:=bodyOf Tryz.f68) (n:=8) (fn:=Tryz.f68) Tryz.mixed Tryz.func68 (by kernel_rfl) (by kernel_rfl) (by kernel_rfl) 2000 _ [] [0,40] rfl rfl (Eq.mpr (by_Clone_vc r) ?_)
  have d_r:=rdv_eq r 5
  have e_r:=vlen_dg r
  refine ⟨xnilq Tryz.sl52 r,⟨fun h1=> ?_,fun h1=> ?_⟩⟩
  · unfold by_Clone_Q
    have hr0:=vnil_row ‹_›
    subst hr0
    exact ⟨Row.nil,⟨bok_nil,rfl,rfl⟩,rfl,rfl,rfl,trivial⟩
  intro b1
  refine opQ_mk (xappRow Tryz.sl52 52 (Row.mk b1 [] []) (by rw [vals_len];first | omega | decide | exact Nat.le_of_ble_eq_true rfl) r (by rw [vals_len];omega) (by rw [(show BOK r by assumption).eq];exact bv_one _)) (wit_appN _) fun x2 h2=> ?_
  have hk32:(dg (Row.mk b1 [] [])).length=0:=rfl
  rw [rvals_eq,srcv_row,(show BOK r by assumption).eq] at h2
  obtain ⟨hBh2,hNh2,hDh2⟩:=bok_app (bok_mk0 b1 _) h2
  unfold by_Clone_Q
  rw [d_r]
  exact ⟨x2,⟨by assumption,by rw [hNh2];exact Nat.zero_add _,by rw [hDh2];rfl⟩,rfl,rfl,rfl,trivial⟩
abbrev by_Clone_K (r:Row) (KK:Row->Prop):Prop:=by_Clone_A r (fun za zh zv zu zp=>callQ Tryz.prog 68 za zh Row zv zu zp KK)
theorem by_Clone_m (r:Row) {KK:Row->Prop} (kont: ∀zx:Row,(BOK zx/\(dg zx).length=((dg r)).length/\dg zx=(dg r))->KK zx) (r_r:BOK r:=by assumption) (hr:(dg r).length<=6000:=by first | omega | decide):by_Clone_K r KK:=callQ_mk (by_Clone r r_r hr) (wit_bok0) fun zx hz=>by
  simp only [rdv_eq,rdv_nil] at hz
  exact kont zx hz
noncomputable def pk_Bytes_C:List Value->List Slot->Ctr:=fun vs hs=>⟨Row,fun zx=>sv zx,fun zx=> [.blk (vblk (varg vs 1)) (.cells #[(scell (sarg hs 0) 0)] 83 (0,0)),(sarg hs 1),(ss 5 zx)],fun zx=>BOK zx/\(dg zx).length=((rdv (scell (sarg hs 0) 0) (sarg hs 1))).length/\dg zx=(rdv (scell (sarg hs 0) 0) (sarg hs 1))⟩
abbrev pk_Bytes_Q (bw:Nat) (r:Row) (zv:Value) (zs0:Slot) (zs1:Slot) (zs2:Slot):Prop:= ∃zx:Row,(BOK zx/\(dg zx).length=((rdv (sv r) (ss 5 r))).length/\dg zx=(rdv (sv r) (ss 5 r)))/\zv=sv zx/\zs0=bk bw #[sv r] 83/\zs1=(ss 5 r)/\zs2=(ss 5 zx)/\True
abbrev pk_Bytes_A (bw:Nat) (r:Row) (zF:SF Row):Prop:=zF #[pp bw 0] [bk bw #[sv r] 83,(ss 5 r)] (fun zx=>sv zx) (fun zx=> [bk bw #[sv r] 83,(ss 5 r),(ss 5 zx)]) (fun zx=>(BOK zx/\(dg zx).length=((rdv (sv r) (ss 5 r))).length/\dg zx=(rdv (sv r) (ss 5 r))))
set_option maxRecDepth 100000 in
theorem pk_Bytes_vc (bw:Nat) (r:Row):pk_Bytes_A bw r (fun za zh zv zu zp=>codeW Tryz.prog 8 none 2000 none (bodyOf Tryz.f38) (.reg [S0] (.reg [S0,S0,S0, .sem [.rd 0], .callw [1] [1,40] by_Clone_C,S0] (.done)))
    (init za zh) (finW Tryz.prog Tryz.f38 [] [0,1,40] (X:=Row) zv zu zp))=
    (rdQ 1 bw (by_Clone_K r (fun x1=>pk_Bytes_Q bw r (sv x1) (bk bw #[sv r] 83) (ss 5 r) (ss 5 x1)))):=by kernel_rfl
set_option maxRecDepth 100000 in
theorem pk_Bytes (bw:Nat) (r:Row) (r_r:BOK r) (hr:(dg r).length<=6000):pk_Bytes_A bw r (fun za zh zv zu zp=>CallT Tryz.prog 38 za zh Row zv zu zp):=by
  refine call_of (c:=bodyOf Tryz.f38) (n:=8) (fn:=Tryz.f38) Tryz.mixed Tryz.func38 (by kernel_rfl) (by kernel_rfl) (by kernel_rfl) 2000 _ [] [0,1,40] rfl rfl (Eq.mpr (pk_Bytes_vc bw r) ?_)
  have d_r:=rdv_eq r 5
  have e_r:=vlen_dg r
  refine rdQ_mk 1 _ (by_Clone_m r (fun x1 h1=> ?_))
  unfold pk_Bytes_Q
  rw [d_r]
  exact ⟨x1,h1,rfl,rfl,rfl,rfl,trivial⟩
abbrev pk_Bytes_K (bw:Nat) (r:Row) (KK:Row->Prop):Prop:=pk_Bytes_A bw r (fun za zh zv zu zp=>callQ Tryz.prog 38 za zh Row zv zu zp KK)
theorem pk_Bytes_m (bw:Nat) (r:Row) {KK:Row->Prop} (kont: ∀zx:Row,(BOK zx/\(dg zx).length=((dg r)).length/\dg zx=(dg r))->KK zx) (r_r:BOK r:=by assumption) (hr:(dg r).length<=6000:=by first | omega | decide):pk_Bytes_K bw r KK:=callQ_mk (pk_Bytes bw r r_r hr) (wit_bok0) fun zx hz=>by
  simp only [rdv_eq,rdv_nil] at hz
  exact kont zx hz
noncomputable def huge_Bytes_C:List Value->List Slot->Ctr:=fun vs hs=>⟨Unit,fun _=>hV (ib4 (ci (cell (varg vs 1) 0)) (ci (cell (varg vs 1) 1)) (ci (cell (varg vs 1) 2)) (ci (cell (varg vs 1) 3))),fun _=>hs,fun _=>True⟩
abbrev huge_Bytes_Q (m0 m1 m2 m3:Int) (zv:Value) :Prop:= ∃_:Unit,(True)/\zv=hV (ib4 m0 m1 m2 m3)/\True
abbrev huge_Bytes_A (m0 m1 m2 m3:Int) (zF:SF Unit):Prop:=zF #[.agg #[uu m0,uu m1,uu m2,uu m3]] [] (fun _=>hV (ib4 m0 m1 m2 m3)) (fun _=> []) (fun _=>True)
set_option maxRecDepth 100000 in
theorem huge_Bytes_vc (m0 m1 m2 m3:Int):huge_Bytes_A m0 m1 m2 m3 (fun za zh zv zu zp=>codeW Tryz.prog 24 none 2000 none (bodyOf Tryz.f86) (.reg [.sem [.nw 0], .sem [.nw 1]] (.reg [.sem [.nw 2]] (.reg [S0] (.reg [S0] (.condT (.reg [S0,S0] (.reg [S0,S0,S0] (.reg [S0,S0,S0,S0, .sem [.rd 0],S0,S0,S0,S0,S0,S0, .sem [.wr 2]] (.reg [S0,S0] (.reg [S0] (.condT (.reg [S0,S0] (.reg [S0,S0,S0] (.reg [S0,S0,S0,S0, .sem [.rd 0],S0,S0,S0,S0,S0,S0, .sem [.wr 2]] (.reg [S0,S0] (.reg [S0] (.condT (.reg [S0,S0] (.reg [S0,S0,S0] (.reg [S0,S0,S0,S0, .sem [.rd 0],S0,S0,S0,S0,S0,S0, .sem [.wr 2]] (.reg [S0,S0] (.reg [S0] (.condT (.reg [S0,S0] (.reg [S0,S0,S0] (.reg [S0,S0,S0,S0, .sem [.rd 0],S0,S0,S0,S0,S0,S0, .sem [.wr 2]] (.reg [S0,S0] (.reg [S0] (.condT (.reg [S0,S0] (.reg [S0,S0,S0] (.reg [S0,S0,S0,S0, .sem [.rd 0],S0,S0,S0,S0,S0,S0, .sem [.wr 2]] (.reg [S0,S0] (.reg [S0] (.condT (.reg [S0,S0] (.reg [S0,S0,S0] (.reg [S0,S0,S0,S0, .sem [.rd 0],S0,S0,S0,S0,S0,S0, .sem [.wr 2]] (.reg [S0,S0] (.reg [S0] (.condT (.reg [S0,S0] (.reg [S0,S0,S0] (.reg [S0,S0,S0,S0, .sem [.rd 0],S0,S0,S0,S0,S0,S0, .sem [.wr 2]] (.reg [S0,S0] (.reg [S0] (.condT (.reg [S0,S0] (.reg [S0,S0,S0] (.reg [S0,S0,S0,S0, .sem [.rd 0],S0,S0,S0,S0,S0,S0, .sem [.wr 2]] (.reg [S0,S0] (.reg [S0] (.condT (.reg [S0,S0] (.reg [S0,S0,S0] (.reg [S0,S0,S0,S0, .sem [.rd 0],S0,S0,S0,S0,S0,S0, .sem [.wr 2]] (.reg [S0,S0] (.reg [S0] (.condT (.reg [S0,S0] (.reg [S0,S0,S0] (.reg [S0,S0,S0,S0, .sem [.rd 0],S0,S0,S0,S0,S0,S0, .sem [.wr 2]] (.reg [S0,S0] (.reg [S0] (.condT (.reg [S0,S0] (.reg [S0,S0,S0] (.reg [S0,S0,S0,S0, .sem [.rd 0],S0,S0,S0,S0,S0,S0, .sem [.wr 2]] (.reg [S0,S0] (.reg [S0] (.condT (.reg [S0,S0] (.reg [S0,S0,S0] (.reg [S0,S0,S0,S0, .sem [.rd 0],S0,S0,S0,S0,S0,S0, .sem [.wr 2]] (.reg [S0,S0] (.reg [S0] (.condT (.reg [S0,S0] (.reg [S0,S0,S0] (.reg [S0,S0,S0,S0, .sem [.rd 0],S0,S0,S0,S0,S0,S0, .sem [.wr 2]] (.reg [S0,S0] (.reg [S0] (.condT (.reg [S0,S0] (.reg [S0,S0,S0] (.reg [S0,S0,S0,S0, .sem [.rd 0],S0,S0,S0,S0,S0,S0, .sem [.wr 2]] (.reg [S0,S0] (.reg [S0] (.condT (.reg [S0,S0] (.reg [S0,S0,S0] (.reg [S0,S0,S0,S0, .sem [.rd 0],S0,S0,S0,S0,S0,S0, .sem [.wr 2]] (.reg [S0,S0] (.reg [S0] (.condT (.reg [S0,S0] (.reg [S0,S0,S0] (.reg [S0,S0,S0,S0, .sem [.rd 0],S0,S0,S0,S0,S0,S0, .sem [.wr 2]] (.reg [S0,S0] (.reg [S0] (.condT (.reg [S0,S0] (.reg [S0,S0,S0] (.reg [S0,S0,S0,S0, .sem [.rd 0],S0,S0,S0,S0,S0,S0, .sem [.wr 2]] (.reg [S0,S0] (.reg [S0] (.condT (.reg [S0,S0] (.reg [S0,S0,S0] (.reg [S0,S0,S0,S0, .sem [.rd 0],S0,S0,S0,S0,S0,S0, .sem [.wr 2]] (.reg [S0,S0] (.reg [S0] (.condT (.reg [S0,S0] (.reg [S0,S0,S0] (.reg [S0,S0,S0,S0, .sem [.rd 0],S0,S0,S0,S0,S0,S0, .sem [.wr 2]] (.reg [S0,S0] (.reg [S0] (.condT (.reg [S0,S0] (.reg [S0,S0,S0] (.reg [S0,S0,S0,S0, .sem [.rd 0],S0,S0,S0,S0,S0,S0, .sem [.wr 2]] (.reg [S0,S0] (.reg [S0] (.condT (.reg [S0,S0] (.reg [S0,S0,S0] (.reg [S0,S0,S0,S0, .sem [.rd 0],S0,S0,S0,S0,S0,S0, .sem [.wr 2]] (.reg [S0,S0] (.reg [S0] (.condT (.reg [S0,S0] (.reg [S0,S0,S0] (.reg [S0,S0,S0,S0, .sem [.rd 0],S0,S0,S0,S0,S0,S0, .sem [.wr 2]] (.reg [S0,S0] (.reg [S0] (.condT (.reg [S0,S0] (.reg [S0,S0,S0] (.reg [S0,S0,S0,S0, .sem [.rd 0],S0,S0,S0,S0,S0,S0, .sem [.wr 2]] (.reg [S0,S0] (.reg [S0] (.condT (.reg [S0,S0] (.reg [S0,S0,S0] (.reg [S0,S0,S0,S0, .sem [.rd 0],S0,S0,S0,S0,S0,S0, .sem [.wr 2]] (.reg [S0,S0] (.reg [S0] (.condT (.reg [S0,S0] (.reg [S0,S0,S0] (.reg [S0,S0,S0,S0, .sem [.rd 0],S0,S0,S0,S0,S0,S0, .sem [.wr 2]] (.reg [S0,S0] (.reg [S0] (.condT (.reg [S0,S0] (.reg [S0,S0,S0] (.reg [S0,S0,S0,S0, .sem [.rd 0],S0,S0,S0,S0,S0,S0, .sem [.wr 2]] (.reg [S0,S0] (.reg [S0] (.condT (.reg [S0,S0] (.reg [S0,S0,S0] (.reg [S0,S0,S0,S0, .sem [.rd 0],S0,S0,S0,S0,S0,S0, .sem [.wr 2]] (.reg [S0,S0] (.reg [S0] (.condT (.reg [S0,S0] (.reg [S0,S0,S0] (.reg [S0,S0,S0,S0, .sem [.rd 0],S0,S0,S0,S0,S0,S0, .sem [.wr 2]] (.reg [S0,S0] (.reg [S0] (.condT (.reg [S0,S0] (.reg [S0,S0,S0] (.reg [S0,S0,S0,S0, .sem [.rd 0],S0,S0,S0,S0,S0,S0, .sem [.wr 2]] (.reg [S0,S0] (.reg [S0] (.condT (.reg [S0,S0] (.reg [S0,S0,S0] (.reg [S0,S0,S0,S0, .sem [.rd 0],S0,S0,S0,S0,S0,S0, .sem [.wr 2]] (.reg [S0,S0] (.reg [S0] (.condT (.reg [S0,S0] (.reg [S0,S0,S0] (.reg [S0,S0,S0,S0, .sem [.rd 0],S0,S0,S0,S0,S0,S0, .sem [.wr 2]] (.reg [S0,S0] (.reg [S0] (.condT (.reg [S0,S0] (.reg [S0,S0,S0] (.reg [S0,S0,S0,S0, .sem [.rd 0],S0,S0,S0,S0,S0,S0, .sem [.wr 2]] (.reg [S0,S0] (.reg [S0] (.condF (.reg [.sem (rds 32 2), .sem (wrs 32 1)] (.done)))))))))))))))))))))))))))))))))))))))))))))))))))))))))))))))))))))))))))))))))))))))))))))))))))))))))))))))))))))))))))))))))))))))))))))))))))))))))))))))))))))))))))))))))))))))))))))))))))))))
    (init za zh) (finW Tryz.prog Tryz.f86 [.rd 1, .rd 1, .rd 1, .rd 1, .rd 1, .rd 1, .rd 1, .rd 1, .rd 1, .rd 1, .rd 1, .rd 1, .rd 1, .rd 1, .rd 1, .rd 1, .rd 1, .rd 1, .rd 1, .rd 1, .rd 1, .rd 1, .rd 1, .rd 1, .rd 1, .rd 1, .rd 1, .rd 1, .rd 1, .rd 1, .rd 1, .rd 1] [] (X:=Unit) zv zu zp))=
    (∀b1:Nat,∀b2:Nat,∀b3:Nat,(true=true)/\rdQ 1 b1 (rdQ 1 b3 ((true=true)/\rdQ 1 b1 (rdQ 1 b3 ((true=true)/\rdQ 1 b1 (rdQ 1 b3 ((true=true)/\rdQ 1 b1 (rdQ 1 b3 ((true=true)/\rdQ 1 b1 (rdQ 1 b3 ((true=true)/\rdQ 1 b1 (rdQ 1 b3 ((true=true)/\rdQ 1 b1 (rdQ 1 b3 ((true=true)/\rdQ 1 b1 (rdQ 1 b3 ((true=true)/\rdQ 1 b1 (rdQ 1 b3 ((true=true)/\rdQ 1 b1 (rdQ 1 b3 ((true=true)/\rdQ 1 b1 (rdQ 1 b3 ((true=true)/\rdQ 1 b1 (rdQ 1 b3 ((true=true)/\rdQ 1 b1 (rdQ 1 b3 ((true=true)/\rdQ 1 b1 (rdQ 1 b3 ((true=true)/\rdQ 1 b1 (rdQ 1 b3 ((true=true)/\rdQ 1 b1 (rdQ 1 b3 ((true=true)/\rdQ 1 b1 (rdQ 1 b3 ((true=true)/\rdQ 1 b1 (rdQ 1 b3 ((true=true)/\rdQ 1 b1 (rdQ 1 b3 ((true=true)/\rdQ 1 b1 (rdQ 1 b3 ((true=true)/\rdQ 1 b1 (rdQ 1 b3 ((true=true)/\rdQ 1 b1 (rdQ 1 b3 ((true=true)/\rdQ 1 b1 (rdQ 1 b3 ((true=true)/\rdQ 1 b1 (rdQ 1 b3 ((true=true)/\rdQ 1 b1 (rdQ 1 b3 ((true=true)/\rdQ 1 b1 (rdQ 1 b3 ((true=true)/\rdQ 1 b1 (rdQ 1 b3 ((true=true)/\rdQ 1 b1 (rdQ 1 b3 ((true=true)/\rdQ 1 b1 (rdQ 1 b3 ((true=true)/\rdQ 1 b1 (rdQ 1 b3 ((true=true)/\rdQ 1 b1 (rdQ 1 b3 ((true=true)/\rdQ 1 b1 (rdQ 1 b3 ((false=false)/\rdQ 32 b3 (rdQ 32 b2 (rdQ 32 b2 (huge_Bytes_Q m0 m1 m2 m3 (Value.agg #[.int .u8 (IntKind.u8.wrap (Int.fdiv m3 (2^56))), .int .u8 (IntKind.u8.wrap (Int.fdiv m3 (2^48))), .int .u8 (IntKind.u8.wrap (Int.fdiv m3 (2^40))), .int .u8 (IntKind.u8.wrap (Int.fdiv m3 (2^32))), .int .u8 (IntKind.u8.wrap (Int.fdiv m3 (2^24))), .int .u8 (IntKind.u8.wrap (Int.fdiv m3 (2^16))), .int .u8 (IntKind.u8.wrap (Int.fdiv m3 (2^8))), .int .u8 (IntKind.u8.wrap (Int.fdiv m3 (2^0))), .int .u8 (IntKind.u8.wrap (Int.fdiv m2 (2^56))), .int .u8 (IntKind.u8.wrap (Int.fdiv m2 (2^48))), .int .u8 (IntKind.u8.wrap (Int.fdiv m2 (2^40))), .int .u8 (IntKind.u8.wrap (Int.fdiv m2 (2^32))), .int .u8 (IntKind.u8.wrap (Int.fdiv m2 (2^24))), .int .u8 (IntKind.u8.wrap (Int.fdiv m2 (2^16))), .int .u8 (IntKind.u8.wrap (Int.fdiv m2 (2^8))), .int .u8 (IntKind.u8.wrap (Int.fdiv m2 (2^0))), .int .u8 (IntKind.u8.wrap (Int.fdiv m1 (2^56))), .int .u8 (IntKind.u8.wrap (Int.fdiv m1 (2^48))), .int .u8 (IntKind.u8.wrap (Int.fdiv m1 (2^40))), .int .u8 (IntKind.u8.wrap (Int.fdiv m1 (2^32))), .int .u8 (IntKind.u8.wrap (Int.fdiv m1 (2^24))), .int .u8 (IntKind.u8.wrap (Int.fdiv m1 (2^16))), .int .u8 (IntKind.u8.wrap (Int.fdiv m1 (2^8))), .int .u8 (IntKind.u8.wrap (Int.fdiv m1 (2^0))), .int .u8 (IntKind.u8.wrap (Int.fdiv m0 (2^56))), .int .u8 (IntKind.u8.wrap (Int.fdiv m0 (2^48))), .int .u8 (IntKind.u8.wrap (Int.fdiv m0 (2^40))), .int .u8 (IntKind.u8.wrap (Int.fdiv m0 (2^32))), .int .u8 (IntKind.u8.wrap (Int.fdiv m0 (2^24))), .int .u8 (IntKind.u8.wrap (Int.fdiv m0 (2^16))), .int .u8 (IntKind.u8.wrap (Int.fdiv m0 (2^8))), .int .u8 (IntKind.u8.wrap (Int.fdiv m0 (2^0)))]))))))))))))))))))))))))))))))))))))))))))))))))))))))))))))))))))))):=by kernel_rfl
set_option maxRecDepth 100000 in
theorem huge_Bytes (m0 m1 m2 m3:Int) :huge_Bytes_A m0 m1 m2 m3 (fun za zh zv zu zp=>CallT Tryz.prog 86 za zh Unit zv zu zp):=by
  refine call_of (c:=bodyOf Tryz.f86) (n:=24) (fn:=Tryz.f86) Tryz.mixed Tryz.func86 (by kernel_rfl) (by kernel_rfl) (by kernel_rfl) 2000 _ [.rd 1, .rd 1, .rd 1, .rd 1, .rd 1, .rd 1, .rd 1, .rd 1, .rd 1, .rd 1, .rd 1, .rd 1, .rd 1, .rd 1, .rd 1, .rd 1, .rd 1, .rd 1, .rd 1, .rd 1, .rd 1, .rd 1, .rd 1, .rd 1, .rd 1, .rd 1, .rd 1, .rd 1, .rd 1, .rd 1, .rd 1, .rd 1] [] rfl rfl (Eq.mpr (huge_Bytes_vc m0 m1 m2 m3) ?_)
  intro b1
  intro b2
  intro b3
  exact ⟨rfl,rdQ_mk 1 _ (rdQ_mk 1 _ ⟨rfl,rdQ_mk 1 _ (rdQ_mk 1 _ ⟨rfl,rdQ_mk 1 _ (rdQ_mk 1 _ ⟨rfl,rdQ_mk 1 _ (rdQ_mk 1 _ ⟨rfl,rdQ_mk 1 _ (rdQ_mk 1 _ ⟨rfl,rdQ_mk 1 _ (rdQ_mk 1 _ ⟨rfl,rdQ_mk 1 _ (rdQ_mk 1 _ ⟨rfl,rdQ_mk 1 _ (rdQ_mk 1 _ ⟨rfl,rdQ_mk 1 _ (rdQ_mk 1 _ ⟨rfl,rdQ_mk 1 _ (rdQ_mk 1 _ ⟨rfl,rdQ_mk 1 _ (rdQ_mk 1 _ ⟨rfl,rdQ_mk 1 _ (rdQ_mk 1 _ ⟨rfl,rdQ_mk 1 _ (rdQ_mk 1 _ ⟨rfl,rdQ_mk 1 _ (rdQ_mk 1 _ ⟨rfl,rdQ_mk 1 _ (rdQ_mk 1 _ ⟨rfl,rdQ_mk 1 _ (rdQ_mk 1 _ ⟨rfl,rdQ_mk 1 _ (rdQ_mk 1 _ ⟨rfl,rdQ_mk 1 _ (rdQ_mk 1 _ ⟨rfl,rdQ_mk 1 _ (rdQ_mk 1 _ ⟨rfl,rdQ_mk 1 _ (rdQ_mk 1 _ ⟨rfl,rdQ_mk 1 _ (rdQ_mk 1 _ ⟨rfl,rdQ_mk 1 _ (rdQ_mk 1 _ ⟨rfl,rdQ_mk 1 _ (rdQ_mk 1 _ ⟨rfl,rdQ_mk 1 _ (rdQ_mk 1 _ ⟨rfl,rdQ_mk 1 _ (rdQ_mk 1 _ ⟨rfl,rdQ_mk 1 _ (rdQ_mk 1 _ ⟨rfl,rdQ_mk 1 _ (rdQ_mk 1 _ ⟨rfl,rdQ_mk 1 _ (rdQ_mk 1 _ ⟨rfl,rdQ_mk 1 _ (rdQ_mk 1 _ ⟨rfl,rdQ_mk 1 _ (rdQ_mk 1 _ ⟨rfl,rdQ_mk 1 _ (rdQ_mk 1 _ ⟨rfl,rdQ_mk 1 _ (rdQ_mk 1 _ ⟨rfl,rdQ_mk 32 _ (rdQ_mk 32 _ (rdQ_mk 32 _ ⟨(),trivial,rfl,trivial⟩))⟩)⟩)⟩)⟩)⟩)⟩)⟩)⟩)⟩)⟩)⟩)⟩)⟩)⟩)⟩)⟩)⟩)⟩)⟩)⟩)⟩)⟩)⟩)⟩)⟩)⟩)⟩)⟩)⟩)⟩)⟩)⟩)⟩
abbrev huge_Bytes_K (m0 m1 m2 m3:Int) (KK:Unit->Prop):Prop:=huge_Bytes_A m0 m1 m2 m3 (fun za zh zv zu zp=>callQr Tryz.prog 86 za zh Unit zv zp KK)
theorem huge_Bytes_m (m0 m1 m2 m3:Int) {KK:Unit->Prop} (kont:KK ()) :huge_Bytes_K m0 m1 m2 m3 KK:=callQr_mk (huge_Bytes m0 m1 m2 m3) (⟨(),trivial⟩) fun _ _=>kont
noncomputable def pk_RawA_C:List Value->List Slot->Ctr:=fun vs hs=>⟨Row,fun zx=> .pointer (some ⟨(vblk (varg vs 1)),0,none⟩),fun zx=> [.blk (vblk (varg vs 1)) (.cells #[sv zx] 83 (0,0)),(ss 5 zx), .blk (vblk (varg vs 2)) (.cells #[.int .u8 ((fun k=>ci (scell (sarg hs 2) k)) 0), .int .u8 ((fun k=>ci (scell (sarg hs 2) k)) 1), .int .u8 ((fun k=>ci (scell (sarg hs 2) k)) 2), .int .u8 ((fun k=>ci (scell (sarg hs 2) k)) 3), .int .u8 ((fun k=>ci (scell (sarg hs 2) k)) 4), .int .u8 ((fun k=>ci (scell (sarg hs 2) k)) 5), .int .u8 ((fun k=>ci (scell (sarg hs 2) k)) 6), .int .u8 ((fun k=>ci (scell (sarg hs 2) k)) 7), .int .u8 ((fun k=>ci (scell (sarg hs 2) k)) 8), .int .u8 ((fun k=>ci (scell (sarg hs 2) k)) 9), .int .u8 ((fun k=>ci (scell (sarg hs 2) k)) 10), .int .u8 ((fun k=>ci (scell (sarg hs 2) k)) 11), .int .u8 ((fun k=>ci (scell (sarg hs 2) k)) 12), .int .u8 ((fun k=>ci (scell (sarg hs 2) k)) 13), .int .u8 ((fun k=>ci (scell (sarg hs 2) k)) 14), .int .u8 ((fun k=>ci (scell (sarg hs 2) k)) 15), .int .u8 ((fun k=>ci (scell (sarg hs 2) k)) 16), .int .u8 ((fun k=>ci (scell (sarg hs 2) k)) 17), .int .u8 ((fun k=>ci (scell (sarg hs 2) k)) 18), .int .u8 ((fun k=>ci (scell (sarg hs 2) k)) 19), .int .u8 ((fun k=>ci (scell (sarg hs 2) k)) 20), .int .u8 ((fun k=>ci (scell (sarg hs 2) k)) 21), .int .u8 ((fun k=>ci (scell (sarg hs 2) k)) 22), .int .u8 ((fun k=>ci (scell (sarg hs 2) k)) 23), .int .u8 ((fun k=>ci (scell (sarg hs 2) k)) 24), .int .u8 ((fun k=>ci (scell (sarg hs 2) k)) 25), .int .u8 ((fun k=>ci (scell (sarg hs 2) k)) 26), .int .u8 ((fun k=>ci (scell (sarg hs 2) k)) 27), .int .u8 ((fun k=>ci (scell (sarg hs 2) k)) 28), .int .u8 ((fun k=>ci (scell (sarg hs 2) k)) 29), .int .u8 ((fun k=>ci (scell (sarg hs 2) k)) 30), .int .u8 ((fun k=>ci (scell (sarg hs 2) k)) 31)] 148 (0,0))],fun zx=>BOK zx/\(dg zx).length=((rdv (scell (sarg hs 0) 0) (sarg hs 1))).length+32/\dg zx=(rdv (scell (sarg hs 0) 0) (sarg hs 1))++l32 (fun k=>ci (scell (sarg hs 2) k))⟩
abbrev pk_RawA_Q (bw:Nat) (r:Row) (bs:Nat) (f:Nat->Int) (zv:Value) (zs0:Slot) (zs1:Slot) (zs2:Slot):Prop:= ∃zx:Row,(BOK zx/\(dg zx).length=((rdv (sv r) (ss 5 r))).length+32/\dg zx=(rdv (sv r) (ss 5 r))++l32 f)/\zv=pp bw 0/\zs0=bk bw #[sv zx] 83/\zs1=(ss 5 zx)/\zs2=bk bs #[.int .u8 (f 0), .int .u8 (f 1), .int .u8 (f 2), .int .u8 (f 3), .int .u8 (f 4), .int .u8 (f 5), .int .u8 (f 6), .int .u8 (f 7), .int .u8 (f 8), .int .u8 (f 9), .int .u8 (f 10), .int .u8 (f 11), .int .u8 (f 12), .int .u8 (f 13), .int .u8 (f 14), .int .u8 (f 15), .int .u8 (f 16), .int .u8 (f 17), .int .u8 (f 18), .int .u8 (f 19), .int .u8 (f 20), .int .u8 (f 21), .int .u8 (f 22), .int .u8 (f 23), .int .u8 (f 24), .int .u8 (f 25), .int .u8 (f 26), .int .u8 (f 27), .int .u8 (f 28), .int .u8 (f 29), .int .u8 (f 30), .int .u8 (f 31)] 148/\True
abbrev pk_RawA_A (bw:Nat) (r:Row) (bs:Nat) (f:Nat->Int) (zF:SF Row):Prop:=zF #[pp bw 0, .slice (some ⟨bs,0,none⟩) 32 32] [bk bw #[sv r] 83,(ss 5 r),bk bs #[.int .u8 (f 0), .int .u8 (f 1), .int .u8 (f 2), .int .u8 (f 3), .int .u8 (f 4), .int .u8 (f 5), .int .u8 (f 6), .int .u8 (f 7), .int .u8 (f 8), .int .u8 (f 9), .int .u8 (f 10), .int .u8 (f 11), .int .u8 (f 12), .int .u8 (f 13), .int .u8 (f 14), .int .u8 (f 15), .int .u8 (f 16), .int .u8 (f 17), .int .u8 (f 18), .int .u8 (f 19), .int .u8 (f 20), .int .u8 (f 21), .int .u8 (f 22), .int .u8 (f 23), .int .u8 (f 24), .int .u8 (f 25), .int .u8 (f 26), .int .u8 (f 27), .int .u8 (f 28), .int .u8 (f 29), .int .u8 (f 30), .int .u8 (f 31)] 148] (fun zx=>pp bw 0) (fun zx=> [bk bw #[sv zx] 83,(ss 5 zx),bk bs #[.int .u8 (f 0), .int .u8 (f 1), .int .u8 (f 2), .int .u8 (f 3), .int .u8 (f 4), .int .u8 (f 5), .int .u8 (f 6), .int .u8 (f 7), .int .u8 (f 8), .int .u8 (f 9), .int .u8 (f 10), .int .u8 (f 11), .int .u8 (f 12), .int .u8 (f 13), .int .u8 (f 14), .int .u8 (f 15), .int .u8 (f 16), .int .u8 (f 17), .int .u8 (f 18), .int .u8 (f 19), .int .u8 (f 20), .int .u8 (f 21), .int .u8 (f 22), .int .u8 (f 23), .int .u8 (f 24), .int .u8 (f 25), .int .u8 (f 26), .int .u8 (f 27), .int .u8 (f 28), .int .u8 (f 29), .int .u8 (f 30), .int .u8 (f 31)] 148]) (fun zx=>(BOK zx/\(dg zx).length=((rdv (sv r) (ss 5 r))).length+32/\dg zx=(rdv (sv r) (ss 5 r))++l32 f))
set_option maxRecDepth 100000 in
theorem pk_RawA_vc (bw:Nat) (r:Row) (bs:Nat) (f:Nat->Int):pk_RawA_A bw r bs f (fun za zh zv zu zp=>codeW Tryz.prog 15 none 2000 none (bodyOf Tryz.f36) (.reg [S0] (.reg [S0,S0,S0,S0, .sem [.rd 0],S0, .specw [1,2] [1,2] (F_appN 5),S0,S0, .specw [0] [0] F_put] (.reg [S0,S0] (.done))))
    (init za zh) (finW Tryz.prog Tryz.f36 [] [0,1,2] (X:=Row) zv zu zp))=
    (rdQ 1 bw (opQ Tryz.prog (vS (Builtin.append_ #[52,52] 52 #[sv r, .slice (some ⟨bs,0,none⟩) 32 32])) [(ss 5 r),bk bs #[.int .u8 (f 0), .int .u8 (f 1), .int .u8 (f 2), .int .u8 (f 3), .int .u8 (f 4), .int .u8 (f 5), .int .u8 (f 6), .int .u8 (f 7), .int .u8 (f 8), .int .u8 (f 9), .int .u8 (f 10), .int .u8 (f 11), .int .u8 (f 12), .int .u8 (f 13), .int .u8 (f 14), .int .u8 (f 15), .int .u8 (f 16), .int .u8 (f 17), .int .u8 (f 18), .int .u8 (f 19), .int .u8 (f 20), .int .u8 (f 21), .int .u8 (f 22), .int .u8 (f 23), .int .u8 (f 24), .int .u8 (f 25), .int .u8 (f 26), .int .u8 (f 27), .int .u8 (f 28), .int .u8 (f 29), .int .u8 (f 30), .int .u8 (f 31)] 148] Row (fun zx=>sv zx) (fun zx=> [(ss 5 zx),bk bs #[.int .u8 (f 0), .int .u8 (f 1), .int .u8 (f 2), .int .u8 (f 3), .int .u8 (f 4), .int .u8 (f 5), .int .u8 (f 6), .int .u8 (f 7), .int .u8 (f 8), .int .u8 (f 9), .int .u8 (f 10), .int .u8 (f 11), .int .u8 (f 12), .int .u8 (f 13), .int .u8 (f 14), .int .u8 (f 15), .int .u8 (f 16), .int .u8 (f 17), .int .u8 (f 18), .int .u8 (f 19), .int .u8 (f 20), .int .u8 (f 21), .int .u8 (f 22), .int .u8 (f 23), .int .u8 (f 24), .int .u8 (f 25), .int .u8 (f 26), .int .u8 (f 27), .int .u8 (f 28), .int .u8 (f 29), .int .u8 (f 30), .int .u8 (f 31)] 148]) (fun zx=>vals zx=rvals (sv r) (ss 5 r)++srcv (Value.slice (some ⟨bs,0,none⟩) 32 32) (bk bs #[.int .u8 (f 0), .int .u8 (f 1), .int .u8 (f 2), .int .u8 (f 3), .int .u8 (f 4), .int .u8 (f 5), .int .u8 (f 6), .int .u8 (f 7), .int .u8 (f 8), .int .u8 (f 9), .int .u8 (f 10), .int .u8 (f 11), .int .u8 (f 12), .int .u8 (f 13), .int .u8 (f 14), .int .u8 (f 15), .int .u8 (f 16), .int .u8 (f 17), .int .u8 (f 18), .int .u8 (f 19), .int .u8 (f 20), .int .u8 (f 21), .int .u8 (f 22), .int .u8 (f 23), .int .u8 (f 24), .int .u8 (f 25), .int .u8 (f 26), .int .u8 (f 27), .int .u8 (f 28), .int .u8 (f 29), .int .u8 (f 30), .int .u8 (f 31)] 148)) (fun x1=>opQ Tryz.prog (skS (Instr.storeAt 52 (pp bw 0) (sv x1))) [bk bw #[sv r] 83] Unit (fun _=> .tuple #[]) (fun _=> [bk bw #[sv x1] 83]) (fun _=>True) (fun _=>pk_RawA_Q bw r bs f (pp bw 0) (bk bw #[sv x1] 83) (ss 5 x1) (bk bs #[.int .u8 (f 0), .int .u8 (f 1), .int .u8 (f 2), .int .u8 (f 3), .int .u8 (f 4), .int .u8 (f 5), .int .u8 (f 6), .int .u8 (f 7), .int .u8 (f 8), .int .u8 (f 9), .int .u8 (f 10), .int .u8 (f 11), .int .u8 (f 12), .int .u8 (f 13), .int .u8 (f 14), .int .u8 (f 15), .int .u8 (f 16), .int .u8 (f 17), .int .u8 (f 18), .int .u8 (f 19), .int .u8 (f 20), .int .u8 (f 21), .int .u8 (f 22), .int .u8 (f 23), .int .u8 (f 24), .int .u8 (f 25), .int .u8 (f 26), .int .u8 (f 27), .int .u8 (f 28), .int .u8 (f 29), .int .u8 (f 30), .int .u8 (f 31)] 148))))):=by kernel_rfl
set_option maxRecDepth 100000 in
theorem pk_RawA (bw:Nat) (r:Row) (bs:Nat) (f:Nat->Int) (r_r:BOK r) (hr:(dg r).length<=6000):pk_RawA_A bw r bs f (fun za zh zv zu zp=>CallT Tryz.prog 36 za zh Row zv zu zp):=by
  refine call_of (c:=bodyOf Tryz.f36) (n:=15) (fn:=Tryz.f36) Tryz.mixed Tryz.func36 (by kernel_rfl) (by kernel_rfl) (by kernel_rfl) 2000 _ [] [0,1,2] rfl rfl (Eq.mpr (pk_RawA_vc bw r bs f) ?_)
  have d_r:=rdv_eq r 5
  have e_r:=vlen_dg r
  refine rdQ_mk 1 _ (opQ_mk (xappNR Tryz.sl52 52 r (by rw [vals_len];first | omega | decide | exact Nat.le_of_ble_eq_true rfl) (Nat.le_of_ble_eq_true rfl) (by decide) rfl) (wit_appN _) fun x1 h1=> ?_)
  obtain ⟨hBh1,hNh1,hDh1⟩:=bok_app (r:=r) (l:= [(f 0),(f 1),(f 2),(f 3),(f 4),(f 5),(f 6),(f 7),(f 8),(f 9),(f 10),(f 11),(f 12),(f 13),(f 14),(f 15),(f 16),(f 17),(f 18),(f 19),(f 20),(f 21),(f 22),(f 23),(f 24),(f 25),(f 26),(f 27),(f 28),(f 29),(f 30),(f 31)]) (by assumption) (by rw [rvals_eq] at h1;exact h1)
  simp only [List.length_cons,List.length_nil,List.length_replicate,Nat.zero_add,l32_length] at hNh1
  refine opQ_mk (xputv (b:=bw) (cs:= #[sv r]) (ty:=83) (te:=52) (fun w=>by kernel_rfl) 0 (sv x1) (cells_sv _) (one_sv _) (by show 0<1;decide)) (⟨(),trivial⟩) fun _ _=> ?_
  unfold pk_RawA_Q
  rw [d_r]
  exact ⟨x1,⟨by assumption,by omega,by rw [hDh1];rfl⟩,rfl,rfl,rfl,rfl,trivial⟩
abbrev pk_RawA_K (bw:Nat) (r:Row) (bs:Nat) (f:Nat->Int) (KK:Row->Prop):Prop:=pk_RawA_A bw r bs f (fun za zh zv zu zp=>callQ Tryz.prog 36 za zh Row zv zu zp KK)
theorem pk_RawA_m (bw:Nat) (r:Row) (bs:Nat) (f:Nat->Int) {KK:Row->Prop} (kont: ∀zx:Row,(BOK zx/\(dg zx).length=((dg r)).length+32/\dg zx=(dg r)++l32 f)->KK zx) (r_r:BOK r:=by assumption) (hr:(dg r).length<=6000:=by first | omega | decide):pk_RawA_K bw r bs f KK:=callQ_mk (pk_RawA bw r bs f r_r hr) (wit_bok rfl) fun zx hz=>by
  simp only [rdv_eq,rdv_nil] at hz
  exact kont zx hz
noncomputable def pk_Int_C:List Value->List Slot->Ctr:=fun vs hs=>⟨Row,fun zx=> .pointer (some ⟨(vblk (varg vs 1)),0,none⟩),fun zx=> [.blk (vblk (varg vs 1)) (.cells #[sv zx] 83 (0,0)),(ss 5 zx)],fun zx=>BOK zx/\(dg zx).length=((rdv (scell (sarg hs 0) 0) (sarg hs 1))).length+32/\dg zx=(rdv (scell (sarg hs 0) 0) (sarg hs 1))++l32 (ib4 (ci (cell (varg vs 2) 0)) (ci (cell (varg vs 2) 1)) (ci (cell (varg vs 2) 2)) (ci (cell (varg vs 2) 3)))⟩
abbrev pk_Int_Q (bw:Nat) (r:Row) (m0 m1 m2 m3:Int) (zv:Value) (zs0:Slot) (zs1:Slot):Prop:= ∃zx:Row,(BOK zx/\(dg zx).length=((rdv (sv r) (ss 5 r))).length+32/\dg zx=(rdv (sv r) (ss 5 r))++l32 (ib4 m0 m1 m2 m3))/\zv=pp bw 0/\zs0=bk bw #[sv zx] 83/\zs1=(ss 5 zx)/\True
abbrev pk_Int_A (bw:Nat) (r:Row) (m0 m1 m2 m3:Int) (zF:SF Row):Prop:=zF #[pp bw 0, .agg #[uu m0,uu m1,uu m2,uu m3]] [bk bw #[sv r] 83,(ss 5 r)] (fun zx=>pp bw 0) (fun zx=> [bk bw #[sv zx] 83,(ss 5 zx)]) (fun zx=>(BOK zx/\(dg zx).length=((rdv (sv r) (ss 5 r))).length+32/\dg zx=(rdv (sv r) (ss 5 r))++l32 (ib4 m0 m1 m2 m3)))
set_option maxRecDepth 100000 in
theorem pk_Int_vc (bw:Nat) (r:Row) (m0 m1 m2 m3:Int):pk_Int_A bw r m0 m1 m2 m3 (fun za zh zv zu zp=>codeW Tryz.prog 11 none 2000 none (bodyOf Tryz.f66) (.reg [.sem [.nw 2],S0] (.reg [.sem (rds 4 2), .callr [] huge_Bytes_C, .sem [.nw 3], .sem (wrs 32 3)] (.reg [S0,S0, .callw [0,1,3] [0,1,3] pk_RawA_C,S0] (.done))))
    (init za zh) (finW Tryz.prog Tryz.f66 [] [0,1] (X:=Row) zv zu zp))=
    (∀b1:Nat,rdQ 4 b1 (huge_Bytes_K m0 m1 m2 m3 (fun _=> ∀b2:Nat,rdQ 32 b2 (pk_RawA_K bw r b2 (ib4 m0 m1 m2 m3) (fun x3=>pk_Int_Q bw r m0 m1 m2 m3 (pp bw 0) (bk bw #[sv x3] 83) (ss 5 x3)))))):=by kernel_rfl
set_option maxRecDepth 100000 in
theorem pk_Int (bw:Nat) (r:Row) (m0 m1 m2 m3:Int) (r_r:BOK r) (hr:(dg r).length<=6000):pk_Int_A bw r m0 m1 m2 m3 (fun za zh zv zu zp=>CallT Tryz.prog 66 za zh Row zv zu zp):=by
  refine call_of (c:=bodyOf Tryz.f66) (n:=11) (fn:=Tryz.f66) Tryz.mixed Tryz.func66 (by kernel_rfl) (by kernel_rfl) (by kernel_rfl) 2000 _ [] [0,1] rfl rfl (Eq.mpr (pk_Int_vc bw r m0 m1 m2 m3) ?_)
  have d_r:=rdv_eq r 5
  have e_r:=vlen_dg r
  intro b1
  refine rdQ_mk 4 _ (huge_Bytes_m m0 m1 m2 m3 (fun b2=>rdQ_mk 32 _ (pk_RawA_m bw r b2 (ib4 m0 m1 m2 m3) (fun x3 h1=> ?_))))
  unfold pk_Int_Q
  rw [d_r]
  exact ⟨x3,h1,rfl,rfl,rfl,trivial⟩
abbrev pk_Int_K (bw:Nat) (r:Row) (m0 m1 m2 m3:Int) (KK:Row->Prop):Prop:=pk_Int_A bw r m0 m1 m2 m3 (fun za zh zv zu zp=>callQ Tryz.prog 66 za zh Row zv zu zp KK)
theorem pk_Int_m (bw:Nat) (r:Row) (m0 m1 m2 m3:Int) {KK:Row->Prop} (kont: ∀zx:Row,(BOK zx/\(dg zx).length=((dg r)).length+32/\dg zx=(dg r)++l32 (ib4 m0 m1 m2 m3))->KK zx) (r_r:BOK r:=by assumption) (hr:(dg r).length<=6000:=by first | omega | decide):pk_Int_K bw r m0 m1 m2 m3 KK:=callQ_mk (pk_Int bw r m0 m1 m2 m3 r_r hr) (wit_bok rfl) fun zx hz=>by
  simp only [rdv_eq,rdv_nil] at hz
  exact kont zx hz
noncomputable def book_All_C:List Value->List Slot->Ctr:=fun vs hs=>⟨Nat×Nat×Nat×RK 2,fun zx=> .func (.func 92) #[] #[pp zx.1 0,pp zx.2.1 0],fun zx=> [bk zx.1 #[sv zx.2.2.2.1] 153,(sk 99 zx.2.2.2.1),bk zx.2.1 #[.map (some zx.2.2.1)] 136,(mo zx.2.2.1 (skv (sarg hs 1)))],fun zx=>KeysOf2 (skv (sarg hs 1)) (vals zx.2.2.2.1)⟩
abbrev book_All_Q (b bm bs bj:Nat) (mb:KV) (zv:Value) (zs0:Slot) (zs1:Slot) (zs2:Slot) (zs3:Slot) (zs4:Slot) (zs5:Slot):Prop:= ∃zx:Nat×Nat×Nat×RK 2,(KeysOf2 mb (vals zx.2.2.2.1))/\zv= .func (.func 92) #[] #[pp zx.1 0,pp zx.2.1 0]/\zs0=bk b #[pp bm 0,pp bs 0] 104/\zs1=(mS Tryz.mk138 bm bj mb)/\zs2=bk zx.1 #[sv zx.2.2.2.1] 153/\zs3=(sk 99 zx.2.2.2.1)/\zs4=bk zx.2.1 #[.map (some zx.2.2.1)] 136/\zs5=(mo zx.2.2.1 mb)/\True
abbrev book_All_A (b bm bs bj:Nat) (mb:KV) (zF:SF (Nat×Nat×Nat×RK 2)):Prop:=zF #[pp b 0] [bk b #[pp bm 0,pp bs 0] 104,(mS Tryz.mk138 bm bj mb)] (fun zx=> .func (.func 92) #[] #[pp zx.1 0,pp zx.2.1 0]) (fun zx=> [bk b #[pp bm 0,pp bs 0] 104,(mS Tryz.mk138 bm bj mb),bk zx.1 #[sv zx.2.2.2.1] 153,(sk 99 zx.2.2.2.1),bk zx.2.1 #[.map (some zx.2.2.1)] 136,(mo zx.2.2.1 mb)]) (fun zx=>(KeysOf2 mb (vals zx.2.2.2.1)))
set_option maxRecDepth 100000 in
theorem book_All_vc (b bm bs bj:Nat) (mb:KV):book_All_A b bm bs bj mb (fun za zh zv zu zp=>codeW Tryz.prog 8 none 2000 none (bodyOf Tryz.f64) (.reg [S0] (.reg [S0,S0,S0, .sem [.rd 0], .calln [1] [50,51,52,53] keys_All138_C,S0] (.done)))
    (init za zh) (finW Tryz.prog Tryz.f64 [] [0,1,50,51,52,53] (X:=Nat×Nat×Nat×RK 2) zv zu zp))=
    (rdQ 1 b (callQ Tryz.prog 85 #[pp bm 0] [(mS Tryz.mk138 bm bj mb)] (Nat×Nat×Nat×RK 2) (fun zx=> .func (.func 92) #[] #[pp zx.1 0,pp zx.2.1 0]) (fun zx=> [(mS Tryz.mk138 bm bj mb),bk zx.1 #[sv zx.2.2.2.1] 153,(sk 99 zx.2.2.2.1),bk zx.2.1 #[.map (some zx.2.2.1)] 136,(mo zx.2.2.1 mb)]) (fun zx=>KeysOf2 mb (vals zx.2.2.2.1)) (fun x1=>book_All_Q b bm bs bj mb (Value.func (.func 92) #[] #[pp x1.1 0,pp x1.2.1 0]) (bk b #[pp bm 0,pp bs 0] 104) (mS Tryz.mk138 bm bj mb) (bk x1.1 #[sv x1.2.2.2.1] 153) (sk 99 x1.2.2.2.1) (bk x1.2.1 #[.map (some x1.2.2.1)] 136) (mo x1.2.2.1 mb)))):=by kernel_rfl
set_option maxRecDepth 100000 in
theorem book_All (b bm bs bj:Nat) (mb:KV) (hi:PairKeys mb) (hl:mb.length<=1048576):book_All_A b bm bs bj mb (fun za zh zv zu zp=>CallT Tryz.prog 64 za zh (Nat×Nat×Nat×RK 2) zv zu zp):=by
  refine call_of (c:=bodyOf Tryz.f64) (n:=8) (fn:=Tryz.f64) Tryz.mixed Tryz.func64 (by kernel_rfl) (by kernel_rfl) (by kernel_rfl) 2000 _ [] [0,1,50,51,52,53] rfl rfl (Eq.mpr (book_All_vc b bm bs bj mb) ?_)
  exact rdQ_mk 1 _ (callQ_mk (keys_All138 bm bj mb (by assumption) (by omega)) (keysOf2_witP (by assumption)) fun x1 h1=>⟨_,h1,rfl,rfl,rfl,rfl,rfl,rfl,rfl,trivial⟩)
noncomputable def Tryz.rfA34:Code:=((rfs (bodyOf Tryz.f34)).getD 0 (.skip, .skip)).1
noncomputable def Tryz.rfB34:Code:=((rfs (bodyOf Tryz.f34)).getD 0 (.skip, .skip)).2
set_option maxRecDepth 100000 in
theorem book_bround_vc (l D:Nat) (fn:FuncId) (tmps:Array Value) (b3 bw:Nat) (y:Row) (t p v:Int) (fr:Nat->Value):roundW Tryz.prog 23 l 400 Tryz.rfA34 Tryz.rfB34 (.reg [.sem [.nw 4], .sem [.wr 4, .wr 4]] (.reg [.sem [.nw 5], .sem [.wr 5, .wr 5, .wr 5, .wr 5]] (.reg [.sem [.rd 1], .sem [], .sem [.rd 4], .callw [2,3] [2,3] pk_U8_C, .sem [], .sem [.rd 4], .callw [2,3] [2,3] pk_U8_C, .sem [.rd 5, .rd 5, .rd 5, .rd 5], .callw [2,3] [2,3] pk_Int_C] (.done)))) (recOf fn tmps #[10,11] Tryz.rfA34 Tryz.rfB34 D) ⟨putFr (upd fr 3 (Value.pointer (some ⟨b3,0,none⟩))) [(10, .agg #[.int .u8 t, .int .u8 p]),(11,vI v)],ofList (loopB l (recOf fn tmps #[10,11] Tryz.rfA34 Tryz.rfB34 D):: [.blk b3 (.cells #[.pointer (some ⟨bw,0,none⟩)] 81 (0,0)), .blk bw (.cells #[sv y] 83 (0,0)),(ss 5 y)]),[]⟩ [1,2,3] (X:=Row) (fun zx:Row=> [.blk b3 (.cells #[.pointer (some ⟨bw,0,none⟩)] 81 (0,0)), .blk bw (.cells #[sv zx] 83 (0,0)),(ss 5 zx)]) (fun zx:Row=>BOK zx/\dg zx=dg y++(nb1 (IntKind.u64.wrap t)++(nb1 (IntKind.u64.wrap p)++l32 (ib4 (lim v 0) (lim v 1) (lim v 2) (lim v 3)))))=
    (∀b1:Nat,rdQ 2 b1 (∀b2:Nat,rdQ 4 b2 ((loopB l (recOf fn tmps #[10,11] Tryz.rfA34 Tryz.rfB34 D))=loopB l (recOf fn tmps #[10,11] Tryz.rfA34 Tryz.rfB34 D)/\rdQ 1 b3 (rdQ 1 b1 (pk_U8_K bw y t (fun x3=>rdQ 1 b1 (pk_U8_K bw x3 p (fun x4=>rdQ 4 b2 (pk_Int_K bw x4 (lim v 0) (lim v 1) (lim v 2) (lim v 3) (fun x5=>(loopB l { (recOf fn tmps #[10,11] Tryz.rfA34 Tryz.rfB34 D) with state:= .busy })=loopB l { (recOf fn tmps #[10,11] Tryz.rfA34 Tryz.rfB34 D) with state:= .busy }/\ ∃zx:Row,(BOK zx/\dg zx=dg y++(nb1 (IntKind.u64.wrap t)++(nb1 (IntKind.u64.wrap p)++l32 (ib4 (lim v 0) (lim v 1) (lim v 2) (lim v 3)))))/\Slot.blk b3 (.cells #[.pointer (some ⟨bw,0,none⟩)] 81 (0,0))= .blk b3 (.cells #[.pointer (some ⟨bw,0,none⟩)] 81 (0,0))/\Slot.blk bw (.cells #[sv x5] 83 (0,0))= .blk bw (.cells #[sv zx] 83 (0,0))/\(ss 5 x5)=(ss 5 zx)/\True)))))))))):=by kernel_rfl
set_option maxRecDepth 100000 in
theorem book_bround (l D:Nat) (fn:FuncId) (tmps:Array Value) (b3 bw:Nat) (y:Row) (t p v:Int) (hz:tmps.size=23) (t3:tmps.getD 3 undef=Value.pointer (some ⟨b3,0,none⟩)) (hb:BOK y) (hl:(dg y).length<=5900):RoundT Tryz.prog l #[.agg #[.int .u8 t, .int .u8 p],vI v] (loopB l (recOf fn tmps #[10,11] Tryz.rfA34 Tryz.rfB34 D):: [.blk b3 (.cells #[.pointer (some ⟨bw,0,none⟩)] 81 (0,0)), .blk bw (.cells #[sv y] 83 (0,0)),(ss 5 y)]) Row (fun _=> .bool true) (fun zx:Row=>loopB l (recOf fn tmps #[10,11] Tryz.rfA34 Tryz.rfB34 D):: [.blk b3 (.cells #[.pointer (some ⟨bw,0,none⟩)] 81 (0,0)), .blk bw (.cells #[sv zx] 83 (0,0)),(ss 5 zx)]) (fun zx:Row=>BOK zx/\dg zx=dg y++(nb1 (IntKind.u64.wrap t)++(nb1 (IntKind.u64.wrap p)++l32 (ib4 (lim v 0) (lim v 1) (lim v 2) (lim v 3))))):=by
  refine round_of (n:=23) (fuel:=400) (fr:=(upd (fun i=>tmps.getD i undef) 3 (Value.pointer (some ⟨b3,0,none⟩)))) (Hs:= [.blk b3 (.cells #[.pointer (some ⟨bw,0,none⟩)] 81 (0,0)), .blk bw (.cells #[sv y] 83 (0,0)),(ss 5 y)]) (us:=(fun zx:Row=> [.blk b3 (.cells #[.pointer (some ⟨bw,0,none⟩)] 81 (0,0)), .blk bw (.cells #[sv zx] 83 (0,0)),(ss 5 zx)])) Tryz.mixed hz (fun i=>congrFun (upd_known (f:=(fun i=>tmps.getD i undef)) (t:=3) (v:=Value.pointer (some ⟨b3,0,none⟩)) (t3)) i) rfl rfl _ [1,2,3] rfl (Eq.mpr (book_bround_vc l D fn tmps b3 bw y t p v (fun i=>tmps.getD i undef)) ?_)
  intro b1
  refine rdQ_mk 2 _ ?_
  intro b2
  refine rdQ_mk 4 _ ?_
  refine ⟨rfl,?_⟩
  refine rdQ_mk 1 _ ?_
  refine rdQ_mk 1 _ ?_
  refine pk_U8_m bw y t (fun x3 h1=> ?_)
  have q1:=h1
  have b1:=q1.1
  refine rdQ_mk 1 _ ?_
  refine pk_U8_m bw x3 p (fun x4 h2=> ?_)
  have q2:=h2
  have b2:=q2.1
  refine rdQ_mk 4 _ ?_
  refine pk_Int_m bw x4 (lim v 0) (lim v 1) (lim v 2) (lim v 3) (fun x5 h3=> ?_)
  have q3:=h3
  exact ⟨rfl,x5,⟨q3.1,by rw [q3.2.2,q2.2.2,q1.2.2,List.append_assoc,List.append_assoc]⟩,rfl,rfl,rfl,trivial⟩
noncomputable def book_Bytes_C:List Value->List Slot->Ctr:=fun vs hs=>⟨Row,fun zx=>sv zx,fun zx=> [.blk (vblk (varg vs 1)) (.cells #[.pointer (some ⟨(vblk (scell (sarg hs 0) 0)),0,none⟩), .pointer (some ⟨(vblk (scell (sarg hs 0) 1)),0,none⟩)] 104 (0,0)),(mS Tryz.mk138 (vblk (scell (sarg hs 0) 0)) (snum (sarg hs 1) 1) (skv (sarg hs 1))),(ss 5 zx)],fun zx=>BOK zx/\ ∃l,KeysOf2 (skv (sarg hs 1)) l/\dg zx=bkB (skv (sarg hs 1)) l⟩
abbrev book_Bytes_Q (b bm bs bj:Nat) (mb:KV) (zv:Value) (zs0:Slot) (zs1:Slot) (zs2:Slot):Prop:= ∃zx:Row,(BOK zx/\ ∃l,KeysOf2 mb l/\dg zx=bkB mb l)/\zv=sv zx/\zs0=bk b #[pp bm 0,pp bs 0] 104/\zs1=(mS Tryz.mk138 bm bj mb)/\zs2=(ss 5 zx)/\True
abbrev book_Bytes_A (b bm bs bj:Nat) (mb:KV) (zF:SF Row):Prop:=zF #[pp b 0] [bk b #[pp bm 0,pp bs 0] 104,(mS Tryz.mk138 bm bj mb)] (fun zx=>sv zx) (fun zx=> [bk b #[pp bm 0,pp bs 0] 104,(mS Tryz.mk138 bm bj mb),(ss 5 zx)]) (fun zx=>(BOK zx/\ ∃l,KeysOf2 mb l/\dg zx=bkB mb l))
set_option maxRecDepth 100000 in
theorem book_Bytes_vc (b bm bs bj:Nat) (mb:KV):book_Bytes_A b bm bs bj mb (fun za zh zv zu zp=>codeW Tryz.prog 23 none 2000 none (bodyOf Tryz.f34) (.reg [S0] (.reg [S0, .sem [.nw 2], .sem [.nw 3], .sem [.wr 3]] (.reg [S0, .calln [0,1] [30,31,32,33] book_All_C] (.rf [9,3] [30,31,32,33,3,2] [50,30,31,32,33,3,2,61] (fun _ hs=>⟨Row,fun _=>undef,fun zx=> [(sarg hs 0),(sarg hs 1),(sarg hs 2),(sarg hs 3), .blk (sblk (sarg hs 4)) (.cells #[.pointer (some ⟨(sblk (sarg hs 5)),0,none⟩)] 81 (0,0)), .blk (sblk (sarg hs 5)) (.cells #[sv zx] 83 (0,0)),(ss 5 zx)],fun zx=>BOK zx/\dg zx=bkB (skv (sarg hs 3)) (kvals 2 (scell (sarg hs 0) 0) (sarg hs 1))⟩) (.reg [.sem [.rd 3], .callw [2,61] [2,61,62] pk_Bytes_C,S0] (.done))))))
    (init za zh) (finM Tryz.prog Tryz.f34 [] [0,1,62] 50 (X:=Row) zv zu zp))=
    (∀b1:Nat,∀b2:Nat,rdQ 1 b2 (callQ Tryz.prog 64 #[pp b 0] [bk b #[pp bm 0,pp bs 0] 104,(mS Tryz.mk138 bm bj mb)] (Nat×Nat×Nat×RK 2) (fun zx=> .func (.func 92) #[] #[pp zx.1 0,pp zx.2.1 0]) (fun zx=> [bk b #[pp bm 0,pp bs 0] 104,(mS Tryz.mk138 bm bj mb),bk zx.1 #[sv zx.2.2.2.1] 153,(sk 99 zx.2.2.2.1),bk zx.2.1 #[.map (some zx.2.2.1)] 136,(mo zx.2.2.1 mb)]) (fun zx=>KeysOf2 mb (vals zx.2.2.2.1)) (fun x3=>(∀fr' :Nat->Value,fr' 9=Value.func (.func 92) #[] #[pp x3.1 0,pp x3.2.1 0]->fr' 3=pp b2 0->RangeT Tryz.prog 23 (Operand.tmp 9) #[10,11] Tryz.rfA34 Tryz.rfB34 fr' [bk x3.1 #[sv x3.2.2.2.1] 153,(sk 99 x3.2.2.2.1),bk x3.2.1 #[.map (some x3.2.2.1)] 136,(mo x3.2.2.1 mb),bk b2 #[pp b1 0] 81,bk b1 #[.slice none 0 0] 83] Row (fun zx=> [bk x3.1 #[sv x3.2.2.2.1] 153,(sk 99 x3.2.2.2.1),bk x3.2.1 #[.map (some x3.2.2.1)] 136,(mo x3.2.2.1 mb),bk b2 #[pp b1 0] 81,bk b1 #[sv zx] 83,(ss 5 zx)]) (fun zx=>BOK zx/\dg zx=bkB mb (kvals 2 (sv x3.2.2.2.1) (sk 99 x3.2.2.2.1))))/\(∃zx:Row,BOK zx/\dg zx=bkB mb (kvals 2 (sv x3.2.2.2.1) (sk 99 x3.2.2.2.1)))/\ ∀ (d4:Nat) (x5:Row),(BOK x5/\dg x5=bkB mb (kvals 2 (sv x3.2.2.2.1) (sk 99 x3.2.2.2.1)))->rdQ 1 b2 (pk_Bytes_K b1 x5 (fun x6=>Slot.blk d4 (.deferred (some []))= .blk d4 (.deferred (some []))/\book_Bytes_Q b bm bs bj mb (sv x6) (bk b #[pp bm 0,pp bs 0] 104) (mS Tryz.mk138 bm bj mb) (ss 5 x6)))))):=by kernel_rfl
set_option maxRecDepth 100000 in
theorem book_Bytes (b bm bs bj:Nat) (mb:KV) (hk:KOK Tryz.mk138 mb) (hl:mb.length<=150):book_Bytes_A b bm bs bj mb (fun za zh zv zu zp=>CallT Tryz.prog 34 za zh Row zv zu zp):=by
  refine call_of_mark (c:=bodyOf Tryz.f34) (n:=23) (fn:=Tryz.f34) Tryz.mixed Tryz.func34 (by kernel_rfl) (by kernel_rfl) (by kernel_rfl) 2000 _ [] [0,1,62] 50 rfl rfl (Eq.mpr (book_Bytes_vc b bm bs bj mb) ?_)
  intro b1
  intro b2
  refine rdQ_mk 1 _ (callQ_mk (book_All b bm bs bj mb (⟨key_pairs138 hk,hk.once⟩) (by omega)) (keysOf2_witP (⟨key_pairs138 hk,hk.once⟩)) fun x3 h1=> ?_)
  have hX:=h1
  have hL:=hX.len
  refine ⟨fun fr' ht hb=>by
  rw [kvals_eq]
  have hr:=range_all (n:=23) (ps:= #[10,11]) (A:=Tryz.rfA34) (B:=Tryz.rfB34) (fr:=fr') (g:= .tmp 9) (gf:=92) [.blk x3.1 (.cells #[sv x3.2.2.2.1] 153 (0,0)),(sk 99 x3.2.2.2.1), .blk x3.2.1 (.cells #[.map (some x3.2.2.1)] 136 (0,0)),(mo x3.2.2.1 mb)] (len:=(vals x3.2.2.2.1).length) (fun i=> #[(vals x3.2.2.2.1).getD i undef,(mget mb ((vals x3.2.2.2.1).getD i undef)).getD (vI 0)]) (by exact ht) (fun l rec T hT=>(keys_AllX138 x3.1 x3.2.1 x3.2.2.1 x3.2.2.2 mb hk (by omega) hX).all l rec T hT) (fun y=> [.blk b2 (.cells #[pp b1 0] 81 (0,0)), .blk b1 (.cells #[sv y] 83 (0,0)),(ss 5 y)]) (fun i y=>BOK y/\dg y=bkB mb ((vals x3.2.2.2.1).take i)) (fun l D fn tmps i y hi hy hz hf=>by
    obtain ⟨t,p,hkx⟩:=hX.2.2 _ (getD_mem (d:=undef) hi)
    obtain ⟨v,rv,hvx⟩:=kok_val hk (z:=vI 0) ⟨0,R4_zero,rfl⟩ ((vals x3.2.2.2.1).getD i undef)
    exact round_conv (book_bround l D fn tmps b2 b1 y t p v hz ((hf 3).trans hb) hy.1 (by rw [hy.2,bkB_len,List.length_take];omega)) (by rw [hvx,hkx];rfl) (fun z hz=>⟨hz.1,by rw [hz.2,hy.2,bkB_take hi,eB,hvx,hkx,num_vI rv];rfl⟩)) Row.nil ⟨bok_nil,rfl⟩ imp_free2
  rw [List.take_length] at hr
  exact hr,⟨.mk 0 (bv (bkB mb (kvals 2 (sv x3.2.2.2.1) (sk 99 x3.2.2.2.1)))) [],bok_lit 0 _ _,bv_ci _⟩,fun d4 x5 h2=> ?_⟩
  rw [kvals_eq] at h2
  have hR:=h2
  have hRB:=hR.1
  refine rdQ_mk 1 _ (pk_Bytes_m b1 x5 (fun x6 h3=> ?_) (hr:=by rw [hR.2,bkB_len];omega))
  have qf:=h3
  exact ⟨rfl,⟨x6,⟨qf.1,_,hX,by rw [qf.2.2,hR.2]⟩,rfl,rfl,rfl,rfl,trivial⟩⟩
abbrev book_Bytes_K (b bm bs bj:Nat) (mb:KV) (KK:Row->Prop):Prop:=book_Bytes_A b bm bs bj mb (fun za zh zv zu zp=>callQ Tryz.prog 34 za zh Row zv zu zp KK)
theorem book_Bytes_m (b bm bs bj:Nat) (mb:KV) {KK:Row->Prop} (kont: ∀zx:Row,(BOK zx/\ ∃l,KeysOf2 mb l/\dg zx=bkB mb l)->KK zx) (hk:KOK Tryz.mk138 mb:=by assumption) (hl:mb.length<=150:=by omega):book_Bytes_K b bm bs bj mb KK:=callQ_mk (book_Bytes b bm bs bj mb hk hl) (wit_bkB (key_pairs138 (hk)) (hk).once) fun zx hz=>by
  exact kont zx hz
theorem Tryz.list4 {α:Type} {l:List α} (h:l.length=4): ∃a0 a1 a2 a3,l= [a0,a1,a2,a3]:=by
  match l,h with
  | [a0,a1,a2,a3],_=>exact ⟨a0,a1,a2,a3,rfl⟩
theorem Tryz.list8 {α:Type} {l:List α} (h:l.length=8): ∃a0 a1 a2 a3 a4 a5 a6 a7,l= [a0,a1,a2,a3,a4,a5,a6,a7]:=by
  match l,h with
  | [a0,a1,a2,a3,a4,a5,a6,a7],_=>exact ⟨a0,a1,a2,a3,a4,a5,a6,a7,rfl⟩
theorem Tryz.list9 {α:Type} {l:List α} (h:l.length=9): ∃a0 a1 a2 a3 a4 a5 a6 a7 a8,l= [a0,a1,a2,a3,a4,a5,a6,a7,a8]:=by
  match l,h with
  | [a0,a1,a2,a3,a4,a5,a6,a7,a8],_=>exact ⟨a0,a1,a2,a3,a4,a5,a6,a7,a8,rfl⟩
def Tryz.el47:Int×Int×Int×Int×Int×Int->Value:=fun x=> .agg #[.int .u8 x.1, .int .u8 x.2.1, .int .u8 x.2.2.1, .int .u8 x.2.2.2.1, .int .u8 x.2.2.2.2.1, .int .u64 (lim x.2.2.2.2.2 0), .int .u64 (lim x.2.2.2.2.2 1), .int .u64 (lim x.2.2.2.2.2 2), .int .u64 (lim x.2.2.2.2.2 3)]
def Tryz.el47_ok:Int×Int×Int×Int×Int×Int->Prop:=fun x=>(Lit.int .u8 x.1).wf=true/\(Lit.int .u8 x.2.1).wf=true/\(Lit.int .u8 x.2.2.1).wf=true/\(Lit.int .u8 x.2.2.2.1).wf=true/\(Lit.int .u8 x.2.2.2.2.1).wf=true/\R4 x.2.2.2.2.2
theorem Tryz.elt38:ElT Tryz.prog 38 47 9:=⟨by kernel_rfl,fun w=>by kernel_rfl⟩
theorem Tryz.elk47:ElK Tryz.prog 47 9 (X:=Int×Int×Int×Int×Int×Int) Tryz.el47 Tryz.el47_ok:=by
  refine ⟨.inl ⟨fun w=>by kernel_rfl,fun x=>⟨_,rfl⟩⟩,fun w=>by kernel_rfl,fun _=>rfl,fun x y hx hy h=> ?_⟩
  have e:=fun (i:Nat)=>congrArg (fun l:List Value=>l.getD i undef) h
  have e0:x.1=y.1:=congrArg ci (e 0)
  have e1:x.2.1=y.2.1:=congrArg ci (e 1)
  have e2:x.2.2.1=y.2.2.1:=congrArg ci (e 2)
  have e3:x.2.2.2.1=y.2.2.2.1:=congrArg ci (e 3)
  have e4:x.2.2.2.2.1=y.2.2.2.2.1:=congrArg ci (e 4)
  have e5:x.2.2.2.2.2=y.2.2.2.2.2:=by
    have h0:=congrArg ci (e 5);have h1:=congrArg ci (e 6);have h2:=congrArg ci (e 7);have h3:=congrArg ci (e 8)
    have k0:lim x.2.2.2.2.2 0=lim y.2.2.2.2.2 0:=h0;have k1:lim x.2.2.2.2.2 1=lim y.2.2.2.2.2 1:=h1;have k2:lim x.2.2.2.2.2 2=lim y.2.2.2.2.2 2:=h2;have k3:lim x.2.2.2.2.2 3=lim y.2.2.2.2.2 3:=h3
    have hn:num (vI x.2.2.2.2.2)=num (vI y.2.2.2.2.2):=by rw [lims,lims,k0,k1,k2,k3]
    rwa [num_vI hx.2.2.2.2.2,num_vI hy.2.2.2.2.2] at hn
  exact (Prod.ext e0 (Prod.ext e1 (Prod.ext e2 (Prod.ext e3 (Prod.ext e4 e5)))))
def Tryz.el45:Int×Int×Int×Int×Int->Value:=fun x=> .agg #[.int .u8 x.1, .int .u8 x.2.1, .int .u8 x.2.2.1, .int .u8 x.2.2.2.1, .int .u64 (lim x.2.2.2.2 0), .int .u64 (lim x.2.2.2.2 1), .int .u64 (lim x.2.2.2.2 2), .int .u64 (lim x.2.2.2.2 3)]
def Tryz.el45_ok:Int×Int×Int×Int×Int->Prop:=fun x=>(Lit.int .u8 x.1).wf=true/\(Lit.int .u8 x.2.1).wf=true/\(Lit.int .u8 x.2.2.1).wf=true/\(Lit.int .u8 x.2.2.2.1).wf=true/\R4 x.2.2.2.2
theorem Tryz.opens45:Opens Tryz.prog 45 8 (X:=Int×Int×Int×Int×Int) Tryz.el45 Tryz.el45_ok:=by
  intro H enc W base sp held fuel cs y hl h
  obtain ⟨c0,c1,c2,c3,c4,c5,c6,c7,rfl⟩:=Tryz.list8 hl
  obtain ⟨xs,n,hn,hx,hsz,hlen,hf⟩:=DataW.trod_struct (fs:=Tryz.prog.fieldsOf 45) (by kernel_rfl) h
  have t0: ∃y,DataW.trod enc Tryz.prog W base sp held n 5 [c0]=some y:=trod_field hlen hf 0 (f:=(Tryz.prog.fieldsOf 45).getD 0 default) (off:=0) (k:=1) (by kernel_rfl) (by kernel_rfl) (by kernel_rfl) (by kernel_rfl)
  obtain ⟨y0,t0⟩:=t0
  obtain ⟨v0,q0,k0⟩:=opens_int (P:=Tryz.prog) (t:=5) (k:= .u8) (by kernel_rfl) H enc W base sp held n _ _ rfl t0
  have t1: ∃y,DataW.trod enc Tryz.prog W base sp held n 5 [c1]=some y:=trod_field hlen hf 1 (f:=(Tryz.prog.fieldsOf 45).getD 1 default) (off:=1) (k:=1) (by kernel_rfl) (by kernel_rfl) (by kernel_rfl) (by kernel_rfl)
  obtain ⟨y1,t1⟩:=t1
  obtain ⟨v1,q1,k1⟩:=opens_int (P:=Tryz.prog) (t:=5) (k:= .u8) (by kernel_rfl) H enc W base sp held n _ _ rfl t1
  have t2: ∃y,DataW.trod enc Tryz.prog W base sp held n 5 [c2]=some y:=trod_field hlen hf 2 (f:=(Tryz.prog.fieldsOf 45).getD 2 default) (off:=2) (k:=1) (by kernel_rfl) (by kernel_rfl) (by kernel_rfl) (by kernel_rfl)
  obtain ⟨y2,t2⟩:=t2
  obtain ⟨v2,q2,k2⟩:=opens_int (P:=Tryz.prog) (t:=5) (k:= .u8) (by kernel_rfl) H enc W base sp held n _ _ rfl t2
  have t3: ∃y,DataW.trod enc Tryz.prog W base sp held n 5 [c3]=some y:=trod_field hlen hf 3 (f:=(Tryz.prog.fieldsOf 45).getD 3 default) (off:=3) (k:=1) (by kernel_rfl) (by kernel_rfl) (by kernel_rfl) (by kernel_rfl)
  obtain ⟨y3,t3⟩:=t3
  obtain ⟨v3,q3,k3⟩:=opens_int (P:=Tryz.prog) (t:=5) (k:= .u8) (by kernel_rfl) H enc W base sp held n _ _ rfl t3
  have t4: ∃y,DataW.trod enc Tryz.prog W base sp held n 29 [c4,c5,c6,c7]=some y:=trod_field hlen hf 4 (f:=(Tryz.prog.fieldsOf 45).getD 4 default) (off:=4) (k:=4) (by kernel_rfl) (by kernel_rfl) (by kernel_rfl) (by kernel_rfl)
  obtain ⟨y4,t4⟩:=t4
  obtain ⟨v4,q4,k4⟩:=opens_num (P:=Tryz.prog) (t:=29) (e:=27) (by kernel_rfl) (by kernel_rfl) (by kernel_rfl) (by kernel_rfl) H enc W base sp held n _ _ rfl t4
  refine ⟨(v0,v1,v2,v3,v4),?_,⟨k0,k1,k2,k3,k4⟩⟩
  show [c0]++ [c1]++ [c2]++ [c3]++ [c4,c5,c6,c7]=_
  rw [q0,q1,q2,q3,q4]
  rfl
theorem Tryz.opens47:Opens Tryz.prog 47 9 (X:=Int×Int×Int×Int×Int×Int) Tryz.el47 Tryz.el47_ok:=by
  intro H enc W base sp held fuel cs y hl h
  obtain ⟨c0,c1,c2,c3,c4,c5,c6,c7,c8,rfl⟩:=Tryz.list9 hl
  obtain ⟨xs,n,hn,hx,hsz,hlen,hf⟩:=DataW.trod_struct (fs:=Tryz.prog.fieldsOf 47) (by kernel_rfl) h
  have t0: ∃y,DataW.trod enc Tryz.prog W base sp held n 5 [c0]=some y:=trod_field hlen hf 0 (f:=(Tryz.prog.fieldsOf 47).getD 0 default) (off:=0) (k:=1) (by kernel_rfl) (by kernel_rfl) (by kernel_rfl) (by kernel_rfl)
  obtain ⟨y0,t0⟩:=t0
  obtain ⟨v0,q0,k0⟩:=opens_int (P:=Tryz.prog) (t:=5) (k:= .u8) (by kernel_rfl) H enc W base sp held n _ _ rfl t0
  have t1: ∃y,DataW.trod enc Tryz.prog W base sp held n 45 [c1,c2,c3,c4,c5,c6,c7,c8]=some y:=trod_field hlen hf 1 (f:=(Tryz.prog.fieldsOf 47).getD 1 default) (off:=1) (k:=8) (by kernel_rfl) (by kernel_rfl) (by kernel_rfl) (by kernel_rfl)
  obtain ⟨y1,t1⟩:=t1
  obtain ⟨v1,q1,k1⟩:=Tryz.opens45 H enc W base sp held n _ _ rfl t1
  refine ⟨(v0,v1.1,v1.2.1,v1.2.2.1,v1.2.2.2.1,v1.2.2.2.2),?_,⟨k0,k1.1,k1.2.1,k1.2.2.1,k1.2.2.2.1,k1.2.2.2.2⟩⟩
  show [c0]++ [c1,c2,c3,c4,c5,c6,c7,c8]=_
  rw [q0,q1]
  rfl
def Tryz.el40:StT->Value:=fun x=> .agg #[.int .u8 x.1, .int .u64 x.2.1,x.2.2.1.1, .int .i64 x.2.2.2]
def Tryz.el40_ok (w:World):StT->Prop:=fun x=>(Lit.int .u8 x.1).wf=true/\(Lit.int .u64 x.2.1).wf=true/\(x.2.2.1.1.cells= #[x.2.2.1.1]/\SlX w 9 (X:=DT) Tryz.el47 Tryz.el47_ok x.2.2.1.1 x.2.2.1.2)/\(Lit.int .i64 x.2.2.2).wf=true
theorem Tryz.elt22:ElT Tryz.prog 22 40 4:=⟨by kernel_rfl,fun w=>by kernel_rfl⟩
theorem Tryz.elk40 {w:World}:ElK Tryz.prog 40 4 (X:=StT) Tryz.el40 (Tryz.el40_ok w):=by
  refine ⟨.inl ⟨fun w=>by kernel_rfl,fun x=>⟨_,rfl⟩⟩,fun w=>by kernel_rfl,fun _=>rfl,fun x y hx hy h=> ?_⟩
  have e:=fun (i:Nat)=>congrArg (fun l:List Value=>l.getD i undef) h
  have e0:x.1=y.1:=congrArg ci (e 0)
  have e1:x.2.1=y.2.1:=congrArg ci (e 1)
  have e2:x.2.2.1.1=y.2.2.1.1:=e 2
  have e3:x.2.2.2=y.2.2.2:=congrArg ci (e 3)
  obtain ⟨_,_,⟨_,hx3⟩,_⟩:=hx
  obtain ⟨_,_,⟨_,hy3⟩,_⟩:=hy
  rw [e2] at hx3
  exact Prod.ext e0 (Prod.ext e1 (Prod.ext (Prod.ext e2 (SlX.inj Tryz.elk47 hx3 hy3)) e3))
theorem Tryz.opens40:OpensW Tryz.prog 40 4 (X:=StT) Tryz.el40 (fun W=>Tryz.el40_ok W):=by
  intro H enc W base sp held fuel cs y hl h
  obtain ⟨c0,c1,c2,c3,rfl⟩:=Tryz.list4 hl
  obtain ⟨xs,n,hn,hx,hsz,hlen,hf⟩:=DataW.trod_struct (fs:=Tryz.prog.fieldsOf 40) (by kernel_rfl) h
  have t0: ∃y,DataW.trod enc Tryz.prog W base sp held n 5 [c0]=some y:=trod_field hlen hf 0 (f:=(Tryz.prog.fieldsOf 40).getD 0 default) (off:=0) (k:=1) (by kernel_rfl) (by kernel_rfl) (by kernel_rfl) (by kernel_rfl)
  obtain ⟨y0,t0⟩:=t0
  obtain ⟨v0,q0,k0⟩:=opens_int (P:=Tryz.prog) (t:=5) (k:= .u8) (by kernel_rfl) H enc W base sp held n _ _ rfl t0
  have t1: ∃y,DataW.trod enc Tryz.prog W base sp held n 27 [c1]=some y:=trod_field hlen hf 1 (f:=(Tryz.prog.fieldsOf 40).getD 1 default) (off:=1) (k:=1) (by kernel_rfl) (by kernel_rfl) (by kernel_rfl) (by kernel_rfl)
  obtain ⟨y1,t1⟩:=t1
  obtain ⟨v1,q1,k1⟩:=opens_int (P:=Tryz.prog) (t:=27) (k:= .u64) (by kernel_rfl) H enc W base sp held n _ _ rfl t1
  have t2: ∃y,DataW.trod enc Tryz.prog W base sp held n 38 [c2]=some y:=trod_field hlen hf 2 (f:=(Tryz.prog.fieldsOf 40).getD 2 default) (off:=2) (k:=1) (by kernel_rfl) (by kernel_rfl) (by kernel_rfl) (by kernel_rfl)
  obtain ⟨y2,t2⟩:=t2
  obtain ⟨v2,q2,k2⟩:=opens_slice (P:=Tryz.prog) (t:=38) (e:=47) (n:=9) (by kernel_rfl) (by kernel_rfl) (by decide) Tryz.opens47.w H enc W base sp held n _ _ rfl t2
  have t3: ∃y,DataW.trod enc Tryz.prog W base sp held n 3 [c3]=some y:=trod_field hlen hf 3 (f:=(Tryz.prog.fieldsOf 40).getD 3 default) (off:=3) (k:=1) (by kernel_rfl) (by kernel_rfl) (by kernel_rfl) (by kernel_rfl)
  obtain ⟨y3,t3⟩:=t3
  obtain ⟨v3,q3,k3⟩:=opens_int (P:=Tryz.prog) (t:=3) (k:= .i64) (by kernel_rfl) H enc W base sp held n _ _ rfl t3
  rw [k2.1] at q2
  refine ⟨(v0,v1,v2,v3),?_,k0,k1,⟨k2.1,k2.2.1⟩,k3⟩
  show [c0]++ [c1]++ [c2]++ [c3]=_
  rw [q0,q1,q2,q3]
  rfl
noncomputable def Tryz.dsOf (w:World) (v:Value):List DT:=slOf w 9 (X:=DT) Tryz.el47 Tryz.el47_ok v
theorem Tryz.dsOf_eq {w:World} {v:Value} {ds:List DT} (h:SlX w 9 (X:=DT) Tryz.el47 Tryz.el47_ok v ds):Tryz.dsOf w v=ds:=slOf_eq Tryz.elk47 h
theorem Tryz.dok {w:World} {v:Value} {ds:List DT} (h:SlX w 9 (X:=DT) Tryz.el47 Tryz.el47_ok v ds): ∀d∈ds,dOK d:=fun d hd=>by
  obtain ⟨_,_,w3,w4,w5,r⟩:=h.2 d hd
  exact ⟨(wf8 w3).1,(wf8 w4).1,(wf8 w5).1,r⟩
theorem Tryz.entOK138 (b:Nat):EntOK b (Tryz.ent138 b):=⟨fun _ _=>rfl,fun _ _=>rfl,fun _ _=>rfl⟩
theorem Tryz.entOK143 (b:Nat):EntOK b (Tryz.ent143 b):=⟨fun _ _=>rfl,fun _ _=>rfl,fun _ _=>rfl⟩
theorem Tryz.ob: ∀t p,MK.OkK Tryz.mk138 (kk t p):=fun _ _=>⟨_,_,rfl⟩
theorem Tryz.os: ∀t:Int,MK.OkK Tryz.mk143 (.int .u8 t):=fun _=>⟨_,rfl⟩
theorem Tryz.run_wit {w:World} {v:Value} {ds:List DT} (h:SlX w 9 (X:=DT) Tryz.el47 Tryz.el47_ok v ds) (h10:ds.length<=10) {S:PS} (hP:GP Tryz.mk138 Tryz.mk143 S) {u0 v0 u1 v1:Nat} (hN: [u0,v0,u1,v1].Nodup) {f:Int}: ∃z,RunR Tryz.mk138 Tryz.mk143 Tryz.ent138 Tryz.ent143 u0 v0 u1 v1 S (Tryz.dsOf w v) f z:=by
  rw [Tryz.dsOf_eq h]
  exact Go.Sx.run_wit Tryz.numk138 Tryz.numk143 Tryz.ob Tryz.os Tryz.entOK138 Tryz.entOK143 hN hP (Tryz.dok h) h10
theorem Tryz.try_wit {w:World} {v:Value} {ds:List DT} (h:SlX w 9 (X:=DT) Tryz.el47 Tryz.el47_ok v ds) {S:PS} (hP:GP Tryz.mk138 Tryz.mk143 S) {u0 v0 u1 v1:Nat} (hN: [u0,v0,u1,v1].Nodup) {mn:KV} {xn:List Int} (hZ:NZ mn xn) {k:Int} (wk:(Lit.int .u8 k).wf=true) {n f:Int}: ∃z,TryR Tryz.mk138 Tryz.mk143 (tryA (tabS S) xn k n (Tryz.dsOf w v) f) z:=by
  rw [Tryz.dsOf_eq h]
  exact Go.Sx.try_wit Tryz.numk138 Tryz.numk143 Tryz.ob Tryz.os Tryz.entOK138 Tryz.entOK143 hN hP hZ (wf8 wk).1 (Tryz.dok h)
abbrev law14_few_Q (w:World) (l:Value) (ls:List StT) (zv:Value) (zs0:Slot):Prop:= ∃_:Unit,(True)/\zv= .bool (fewB ls)/\zs0=(old w)/\True
end Go.Proofs
